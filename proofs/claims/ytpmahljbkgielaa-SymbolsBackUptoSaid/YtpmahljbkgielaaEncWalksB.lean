/- The walks of the document's Uint and Text. -/
import Derived.Test.YtpmahljbkgielaaEncWalksA
import Derived.Maps.AppendAt
import Derived.Laws.IdiomStrings
namespace Go.Proofs.Ytpmahljbkgielaa
open Go.RowKit
attribute [local go_sem ↓] Go.wp_at_zero Go.wp_at_succ
attribute [local go_sem] Later.cell Later.frozen

theorem info_u8 : (Try.prog.info? 5).map (fun i => (i.zero, i.size, i.bytes)) = some (some (.int .u8 0), 1, 1) := by kernel_rfl

/-- A slice of bytes of the call's own. -/
def BytesOwn (base : Nat) (w : World) (v : Value) (l : List UInt8) : Prop := w.ownsRow base 5 1 v l.length (Lib.byteCells l)
theorem BytesOwn.new (w : World) : BytesOwn w.heap.size (w.alloc (.cells #[] 5)) (.slice (some ⟨w.heap.size, 0, none⟩) 0 0) [] :=
  ⟨rfl, .inr ⟨w.heap.size, 0, #[], rfl, Nat.le_refl _, heap_alloc_new w _, Nat.le_refl _, by decide, rfl, rfl⟩⟩
theorem BytesOwn.push {base : Nat} {w : World} {v : Value} {l : List UInt8} {c : UInt8} {x : Int} (h : w.ownsRow base 5 1 v (l.length + 1) (Lib.byteCells l ++ [.int .u8 x])) (hx : x = c.toNat) : BytesOwn base w v (l ++ [c]) := by
  unfold BytesOwn
  rw [List.length_append, show Lib.byteCells (l ++ [c]) = Lib.byteCells l ++ [.int .u8 x] by rw [hx]; simp [Lib.byteCells]]
  exact h
/-- What an append to a row of one's own leaves as it was. -/
theorem own_below {base e sz n : Nat} {w0 wr w1 : World} {v : Value} {xs : List Value} {o : Obj} (hwr : Below base w0 wr) (hbs : base ≤ wr.heap.size) (hown : wr.ownsRow base e sz v n xs) (hg : (wr.alloc o).grownBy w1 v.ownBlock) : Below base w0 w1 :=
  hwr.trans ⟨hg.os, hg.tape, hg.output, by have := hg.size; simp at this; omega, fun k hk => (hg.block k (by simp; omega) (fun e => by have := (hown.lt k e.symm).1; omega)).trans (Below.heap_alloc _ _ _ (by omega))⟩
theorem BytesOwn.text {base : Nat} {w : World} {v : Value} {l : List UInt8} (h : BytesOwn base w v l) (h0 : l ≠ []) : ∃ a cap, v = .slice (some a) l.length cap ∧ (convert 76 9 (.slice (some a) l.length cap)).run Try.prog w = .ok (.string ⟨l.toArray⟩) w := by
  rcases h.2 with ⟨_, hn⟩ | ⟨g, cap, cur, rfl, hb, hh, hnc, _, hsize, htk⟩
  · exact absurd (List.eq_nil_of_length_eq_zero hn) h0
  · refine ⟨⟨g, 0, none⟩, cap, rfl, run_convert_bytes_back w _ _ 5 _ cap l Try.underlying76 Try.underlying5 Try.underlying9 (fun j hj => ?_)⟩
    rw [Addr.add_lit, Nat.zero_add, cell_of_row w g j cur 5 (0, 0) hh]
    have e : (Lib.byteCells l)[j]? = some (.int .u8 (l[j].toNat : Int)) := by simp [Lib.byteCells, hj]
    rw [← htk, List.getElem?_take] at e
    split at e
    · simpa using e
    · cases e

set_option maxRecDepth 100000 in
set_option maxHeartbeats 400000 in
theorem ruint_calls (v : Nat) (hv : v < 2 ^ 64) (w : World) :
    Calls Try.prog 39 #[.int .u64 v] w fun e w' => e = .returned (.string ⟨(uintT v).toArray⟩) ∧ Below w.heap.size w w' := by
  obtain ⟨i0, hi0, hz0, hz1, hz2⟩ := info_parts info_u8
  go_enter Try.func39, Try.ntmps39
  go_upto_block 0 with fail
  have ho0 : BytesOwn w.heap.size (w.alloc (.cells #[] 5)) (.slice (some ⟨w.heap.size, 0, none⟩) 0 0) [] := BytesOwn.new w
  have hw0 : Below w.heap.size w (w.alloc (.cells #[] 5)) := (Below.refl _ _).alloc (Nat.le_refl _) _
  obtain ⟨w0, hw⟩ : ∃ w0, w.alloc (.cells #[] 5) = w0 := ⟨_, rfl⟩
  rw [hw] at ho0 hw0 ⊢
  clear hw
  obtain ⟨b, hb⟩ : ∃ b, w.heap.size = b := ⟨_, rfl⟩
  rw [hb] at ho0 hw0 ⊢
  have HB := Lib.hid hb
  have hbs0 : b ≤ w0.heap.size := by rw [← hb]; exact hw0.size
  clear hb
  go_wp2_with fail
  go_loopg [0, 3] v (fun g s0 s3 wr => ∃ l, s0 = .int .u64 (g : Nat) ∧ g < 2 ^ 64 ∧ l ++ uintT g = uintT v ∧ BytesOwn b wr s3 l ∧ Below b w wr ∧ b ≤ wr.heap.size)
  case atStart => exact ⟨[], rfl, hv, rfl, ho0, hw0, hbs0⟩
  case round =>
    obtain ⟨l, rfl, hg, hl, hbr, hwr, hbs⟩ := hrel
    have hlen : l.length ≤ 11 := by
      have := congrArg List.length hl
      have h2 := uintT_len v
      rw [List.length_append] at this
      omega
    have HL := Lib.hid hl
    clear hl
    by_cases h127 : 127 < gk
    · go_wp2_with (at_builtin; refine wpList_append_own_at _ rfl _ _ 76 rfl b 5 i0 (.int .u8 0) 1 1 Try.underlying76 hi0 hz0 hz1 hz2 rfl (by decide) _ _ _ rfl (World.ownsRow.alloc hbr _) ⟨wr.heap.size, 0, none⟩ 1 1 [.int .u8 ((gk : Int) % 128 + 128)] rfl rfl ?c1 ?c2 ?c3 ?c4 ?c5 ?_)
      case c1 => exact news_of_blk (l := [.int .u8 ((gk : Int) % 128 + 128)]) (Blk.new wr _ _)
      case c2 => intro u hu; rw [List.mem_singleton.1 hu]; rfl
      case c3 => unfold maxLen; omega
      case c4 => omega
      case c5 => simp; omega
      intro v' w1 hown' hgrow hx1 hat
      have hb1 : BytesOwn b w1 v' (l ++ [UInt8.ofNat (gk % 128 + 128)]) := BytesOwn.push hown' (by
        have : (UInt8.ofNat (gk % 128 + 128)).toNat = gk % 128 + 128 := by simp [UInt8.toNat_ofNat']; omega
        rw [this]; omega)
      have hw1 : Below b w w1 := own_below hwr hbs hbr hgrow
      have hs1 : b ≤ w1.heap.size := by have := hgrow.size; simp at this; omega
      clear hown' hgrow hat hx1
      go_wp2_with fail
      go_roundg (gk / 128)
      case measure => omega
      case rel => exact ⟨_, by go_num, by omega, uint_next HL.out hg h127, hb1, hw1, hs1⟩
    · go_wp2_with (at_builtin; refine wpList_append_own_at _ rfl _ _ 76 rfl b 5 i0 (.int .u8 0) 1 1 Try.underlying76 hi0 hz0 hz1 hz2 rfl (by decide) _ _ _ rfl (World.ownsRow.alloc hbr _) ⟨wr.heap.size, 0, none⟩ 1 1 [.int .u8 (gk : Int)] rfl rfl ?d1 ?d2 ?d3 ?d4 ?d5 ?_)
      case d1 => exact news_of_blk (l := [.int .u8 (gk : Int)]) (Blk.new wr _ _)
      case d2 => intro u hu; rw [List.mem_singleton.1 hu]; rfl
      case d3 => unfold maxLen; omega
      case d4 => omega
      case d5 => simp; omega
      intro v' w1 hown' hgrow hx1 hat
      have hb1 : BytesOwn b w1 v' (l ++ [UInt8.ofNat gk]) := BytesOwn.push hown' (by
        have : (UInt8.ofNat gk).toNat = gk := by simp [UInt8.toNat_ofNat']; omega
        rw [this])
      rw [uint_end HL.out h127] at hb1
      have hw1 : Below b w w1 := own_below hwr hbs hbr hgrow
      obtain ⟨a, cap, rfl, hconv⟩ := hb1.text (by intro e; have := uintT_len v; rw [e] at this; simp at this)
      obtain ⟨nu, hnu⟩ : ∃ n, (uintT v).length = n := ⟨_, rfl⟩
      rw [hnu] at hconv ⊢
      clear hown' hgrow hat hnu hb1 hx1
      go_wp2_with fail
      go_ret
      refine ⟨rfl, ?_⟩
      rw [HB.out]
      exact hw1

set_option maxHeartbeats 400000 in
theorem rtextenc_calls (s : ByteArray) (hs : s.size ≤ 140737488351232) (w : World) :
    Calls Try.prog 66 #[.string s] w fun e w' => e = .returned (.string ⟨(textT s.data.toList).toArray⟩) ∧ Below w.heap.size w w' := by
  have hu := ruint_calls s.size (by omega) w
  have hl := uintT_len s.size
  obtain ⟨U, hU⟩ : ∃ U : ByteArray, (⟨(uintT s.size).toArray⟩ : ByteArray) = U := ⟨_, rfl⟩
  have hUz : U.size ≤ 11 := by rw [← hU]; simp only [ByteArray.size, List.size_toArray]; exact hl.2
  rw [hU] at hu
  have HU := Lib.hid hu
  have HUU := Lib.hid hU
  clear hu hU hl
  go_enter Try.func66, Try.ntmps66
  go_wp2_with fail
  refine HU.out.mono ?_
  rintro e w1 ⟨rfl, hb1⟩
  go_wp2_with fail
  go_ret
  refine ⟨congrArg (fun s => Ending.returned (Value.string s)) (str_eq ?_), hb1⟩
  rw [← HUU.out]
  simp [textT]
end Go.Proofs.Ytpmahljbkgielaa
