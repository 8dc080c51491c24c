/- The walks of the statements' own helpers: ref (a manifest turned into the document's form) and wakes. -/
import Derived.Test.YtfokjcoiehgbpaaRetRef
namespace Go.Proofs.Ytfokjcoiehgbpaa
open Go.RowKit
attribute [local go_sem ↓] Go.wp_at_zero Go.wp_at_succ
attribute [local go_sem] Later.cell Later.frozen

theorem info_rinfo : (Try.prog.info? 50).map (fun i => (i.zero, i.size, i.bytes)) = some (some (.agg #[.int .i64 0, .int .i64 0, .int .i64 0, .int .i64 0, .int .i64 0]), 5, 40) := by kernel_rfl

theorem enc_one (x : Info) : ∀ u ∈ Info.enc x, u.oneCell' = true := by
  intro u hu
  simp only [Info.enc, List.mem_cons, List.not_mem_nil, or_false] at hu
  rcases hu with rfl | rfl | rfl | rfl | rfl <;> rfl

/-- A manifest in the document's form, in new memory. -/
def RefPost (w : World) (M : Man) (n : Nat) (xs : List Info) (e : Ending) (w' : World) : Prop :=
  ∃ A c, e = .returned (M.val (.slice A n c)) ∧ Elems w' w'.heap.size 5 Info.enc A n xs ∧ Below w.heap.size w w'

set_option maxHeartbeats 2000000 in
set_option maxRecDepth 100000 in
theorem ref_calls (M : Man) (A : Option Addr) (n c : Nat) (xs : List Info) (w : World) (hn : n * 40 ≤ 140737488355328) (hX : Elems w w.heap.size 5 Info.enc A n xs) :
    Calls Try.prog 8 #[M.val (.slice A n c)] w (RefPost w M n xs) := by
  have hxl := Lib.hid hX.1
  obtain ⟨i0, hi0, hz0, hz1, hz2⟩ := info_parts info_rinfo
  go_enter Try.func8, Try.ntmps8
  go_upto_region 1 with fail
  go_cut [1, 2, 3] (fun s1 s2 s3 wx => ∃ B, B = w.heap.size ∧ s1 = .pointer (some ⟨B, 0, none⟩) ∧ s2 = .pointer (some ⟨B + 1, 0, none⟩) ∧ s3 = .pointer (some ⟨B + 2, 0, none⟩) ∧
    Below B w wx ∧ B + 3 ≤ wx.heap.size ∧ Blk wx B 27 (M.cells (.slice A n c)) ∧ (∃ M0 : Man, Blk wx (B + 1) 35 (M0.cells (.slice none 0 0))) ∧ Blk wx (B + 2) 35 (M.cells (.slice none 0 0)))
  case first =>
    go_wp2_with fail
    go_meet
    exact ⟨_, rfl, rfl, rfl, rfl, by go_grown, by simp, ((Blk.newAt rfl).alloc _).alloc _, ⟨⟨0, 0, 0, 0, 0, 0, 0, 0, 0, 0, 0, 0⟩, (Blk.newAt (by simp)).alloc _⟩, Blk.newAt (by simp)⟩
  case rest =>
    obtain ⟨B, hB, rfl, rfl, rfl, hbl, hsz, hman, hres, hout⟩ := hcut
    obtain ⟨wx, rfl⟩ : ∃ wx, wx = wc := ⟨_, rfl⟩
    have HB := Lib.hid hB
    have hXB : Elems w B 5 Info.enc A n xs := by rw [hB]; exact hX
    clear hB
    have hxn := hxl.out
    have m5 : wx.cell? ⟨B, 5, none⟩ = some (.slice A n c) := hman.cell 5
    go_wp2_with fail
    go_loopg [22] n (fun gk i wr => ∃ (k : Nat) (v : Value), k + gk = n ∧ i = .int .i64 k ∧ Below B w wr ∧ B + 3 ≤ wr.heap.size ∧ (∃ M0 : Man, Blk wr (B + 1) 35 (M0.cells (.slice none 0 0))) ∧
      Blk wr (B + 2) 35 (M.cells v) ∧ wr.ownsRow (B + 3) 50 5 v k ((xs.take k).flatMap Info.enc))
    case atStart => exact ⟨0, _, by omega, rfl, hbl, hsz, hres, hout, World.ownsRow_nil _ _ _ _⟩
    case round =>
      obtain ⟨k, v, hk, rfl, hb, hz, hr, ho, hown⟩ := hrel
      have HK := Lib.hid hk
      have hkn : k ≤ n := by omega
      clear hk
      have HR := Lib.hid hr
      clear hr
      have o5 : wr.cell? ⟨B + 2, 5, none⟩ = some v := ho.cell 5
      have f5 := ho.frozen 5
      by_cases hlt : k < n
      · obtain ⟨b, off, rfl, hbB, hcell⟩ := hXB.2 (by omega)
        obtain ⟨x, hx⟩ : ∃ x, xs[k]? = some x := ⟨_, List.getElem?_eq_getElem (by omega)⟩
        have rd : ∀ j v, (Info.enc x)[j]? = some v → wr.cell? ⟨b, off + k * 5 + j, none⟩ = some v := fun j v hv => (hb.cell (p := ⟨b, _, none⟩) hbB).trans (hcell k x hx j v hv)
        have q0 := rd 0 _ rfl
        have q1 := rd 1 _ rfl
        have q2 := rd 2 _ rfl
        have q3 := rd 3 _ rfl
        have q4 := rd 4 _ rfl
        simp only [Nat.add_zero] at q0
        have htk : xs.take (k + 1) = xs.take k ++ [x] := by rw [List.take_add_one, hx]; rfl
        have HTK := Lib.hid htk
        have HXN := Lib.hid hxn
        have z2 : B + 2 < wr.heap.size := by omega
        clear htk hx rd hcell hxn
        go_wp2_with (at_builtin; refine wpList_append_own_at _ rfl _ _ 33 rfl (B + 3) 50 i0 _ 5 40 Try.underlying33 hi0 hz0 hz1 hz2 rfl (by decide) _ _ _ rfl ((hown.alloc _).alloc _) ⟨wr.heap.size + 1, 0, none⟩ 1 1 (Info.enc x) rfl rfl ?c1 ?c2 ?c3 ?c4 ?c5 ?_)
        case c1 => exact news_of_blk (l := Info.enc x) (Blk.newAt (by simp))
        case c2 => exact enc_one x
        case c3 => unfold maxLen; omega
        case c4 => omega
        case c5 => simp; omega
        rintro v' w2 hown2 hg2 _ hat
        obtain ⟨g', cap', hv', _, _⟩ := hown2.form (by omega)
        rw [hv'] at hown2 ⊢
        clear hv' hat
        have hne : some (B + 2) ≠ v.ownBlock := fun e => by have := (hown.lt _ e.symm).1; omega
        have ho2 := ((ho.alloc _).alloc _).grown hg2 hne
        have t5 : w2.cell? ⟨B + 2, 5, none⟩ = some v := ho2.cell 5
        have tf := ho2.frozen 5
        go_wp2
        go_roundg (gk - 1)
        case measure => have := HK.out; omega
        case rel =>
          have hs := hg2.size
          simp at hs
          obtain ⟨M0, hr⟩ := HR.out
          refine ⟨k + 1, _, by have := HK.out; omega, by go_num, ?_, by simp; omega, ⟨M0, ?_⟩, ho2.set_ 5 _, ?_⟩
          · exact (Below.grown (((hb.alloc (by omega) _).alloc (by simp; omega) _)) hg2 (by simp; omega) (fun j hj => by have := (hown.lt _ hj).1; omega)).setCell (by simp) _
          · exact (((hr.alloc _).alloc _).grown hg2 (fun e => by have := (hown.lt _ e.symm).1; omega)).far (by simp) _
          · rw [HTK.out, List.flatMap_append]
            have := ownsRow_setCell_below hown2 (a := ⟨B + 2, 5, none⟩) (by simp) (.slice (some ⟨g', 0, none⟩) (k + 1) cap')
            simpa using this
      · obtain rfl : k = n := by omega
        obtain ⟨M0, hr⟩ := HR.out
        rw [List.take_of_length_le (by omega)] at hown
        obtain ⟨A', c', rfl, hE, hge, _⟩ := Elems.of_own (enc := Info.enc) (by intro x _; rfl) rfl hown hxn
        have oc := ho.cell
        have rc := hr.cell
        have rf := hr.frozen
        simp only [Man.cells] at oc rc
        have HXN := Lib.hid hxn
        clear hxn o5 f5
        go_wp2
        have hW := (((((((((((((hr.set_ 0 (.int .i64 M.w0)).set_ 1 (.int .i64 M.w1)).set_ 2 (.int .i64 M.w2)).set_ 3 (.int .i64 M.next)).set_ 4 (.int .i64 M.log)).set_ 5 (.slice A' k c')).set_ 6 (.int .i64 M.cut)).set_ 7 (.int .i64 M.r0)).set_ 8 (.int .i64 M.r1)).set_ 9 (.int .i64 M.r2)).set_ 10 (.int .i64 M.l0)).set_ 11 (.int .i64 M.l1)).set_ 12 (.int .i64 M.l2))
        have hB := (((((((((((((hb.setCell (p := ⟨B + 1, 0, none⟩) (by simp) (.int .i64 M.w0)).setCell (p := ⟨B + 1, 1, none⟩) (by simp) (.int .i64 M.w1)).setCell (p := ⟨B + 1, 2, none⟩) (by simp) (.int .i64 M.w2)).setCell (p := ⟨B + 1, 3, none⟩) (by simp) (.int .i64 M.next)).setCell (p := ⟨B + 1, 4, none⟩) (by simp) (.int .i64 M.log)).setCell (p := ⟨B + 1, 5, none⟩) (by simp) (.slice A' k c')).setCell (p := ⟨B + 1, 6, none⟩) (by simp) (.int .i64 M.cut)).setCell (p := ⟨B + 1, 7, none⟩) (by simp) (.int .i64 M.r0)).setCell (p := ⟨B + 1, 8, none⟩) (by simp) (.int .i64 M.r1)).setCell (p := ⟨B + 1, 9, none⟩) (by simp) (.int .i64 M.r2)).setCell (p := ⟨B + 1, 10, none⟩) (by simp) (.int .i64 M.l0)).setCell (p := ⟨B + 1, 11, none⟩) (by simp) (.int .i64 M.l1)).setCell (p := ⟨B + 1, 12, none⟩) (by simp) (.int .i64 M.l2))
        have hK := ((((((((((((((Kept.refl wr.heap.size [B + 1] wr).setCell (p := ⟨B + 1, 0, none⟩) (.inl (by simp)) (.int .i64 M.w0)).setCell (p := ⟨B + 1, 1, none⟩) (.inl (by simp)) (.int .i64 M.w1)).setCell (p := ⟨B + 1, 2, none⟩) (.inl (by simp)) (.int .i64 M.w2)).setCell (p := ⟨B + 1, 3, none⟩) (.inl (by simp)) (.int .i64 M.next)).setCell (p := ⟨B + 1, 4, none⟩) (.inl (by simp)) (.int .i64 M.log)).setCell (p := ⟨B + 1, 5, none⟩) (.inl (by simp)) (.slice A' k c')).setCell (p := ⟨B + 1, 6, none⟩) (.inl (by simp)) (.int .i64 M.cut)).setCell (p := ⟨B + 1, 7, none⟩) (.inl (by simp)) (.int .i64 M.r0)).setCell (p := ⟨B + 1, 8, none⟩) (.inl (by simp)) (.int .i64 M.r1)).setCell (p := ⟨B + 1, 9, none⟩) (.inl (by simp)) (.int .i64 M.r2)).setCell (p := ⟨B + 1, 10, none⟩) (.inl (by simp)) (.int .i64 M.l0)).setCell (p := ⟨B + 1, 11, none⟩) (.inl (by simp)) (.int .i64 M.l1)).setCell (p := ⟨B + 1, 12, none⟩) (.inl (by simp)) (.int .i64 M.l2))
        simp only [Man.cells, List.setIfInBounds_toArray, List.set_cons_zero, List.set_cons_succ] at hW
        have wc := hW.cell
        refine bodyPost_ret (v := M.val (.slice A' k c')) (by simp [results, Try.results8, go_sem, wc]) rfl ⟨A', c', rfl, ?_, HB.out ▸ hB⟩
        refine Elems.more (B := wr.heap.size) ?_ (by simp)
        refine hE.keepAt fun p hp1 hp2 => ?_
        refine hK.cell hp1 ?_
        cases A' with
        | none => simp at hp2
        | some a =>
          have := hge a rfl
          simp only [Option.map_some, Option.some.injEq] at hp2
          simp
          omega
end Go.Proofs.Ytfokjcoiehgbpaa
