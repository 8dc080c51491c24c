/- Merged (what the claim wants of): DskWalksU. -/
import Derived.Test.YtfpgbhimgfdddaaGreatDoorWak08
set_option linter.unusedVariables false
set_option linter.unusedSimpArgs false
/- The walks of layer 3 (disk): Append. -/
namespace Go.Proofs.YtfpgbhimgfdddaaGreatDoor
open Go.RowKit Go.Shelf Go.Maps Go.Sort
attribute [local go_sem ↓] Go.wp_at_zero Go.wp_at_succ
attribute [local go_sem] Later.cell Later.frozen

section
variable {B0 : Nat} {a : Nat → Addr} {R : Nat → Nat} {A : Adr} {d : Ds} {w w' : World}
theorem join_flat (l : List Txt) : Lib.join l [] = l.flatten := by
  cases l with
  | nil => rfl
  | cons x r => rw [Lib.join_cons]; simp [Lib.joinTail]
theorem joins_calls (Ao : Option Addr) (n c : Nat) (l : List Txt) (w : World) (h : Strs w Ao n l) (hc : n ≤ c) (hn : n ≤ 140737488355328) (hl : l.flatten.length ≤ 140737488355328) :
    Calls Tryz.prog 68 #[.slice Ao n c, .string ⟨#[]⟩] w fun e w' => e = .returned (.string ⟨l.flatten.toArray⟩) ∧ Below w.heap.size w w' := by
  have hln := h.len
  by_cases h0 : n = 0
  · subst h0
    obtain rfl : l = [] := List.eq_nil_of_length_eq_zero hln
    refine (Tryz.strings_Join_none Ao c ⟨#[]⟩ w).mono ?_
    rintro _ w1 ⟨rfl, rfl⟩
    exact ⟨rfl, Below.refl _ _⟩
  · obtain ⟨b, off, rfl, hb, _⟩ := h.at_ (i := 0) (by omega)
    have hm : (l.map fun t => (⟨t.toArray⟩ : ByteArray)).map (·.data.toList) = l := by simp [Function.comp_def]
    have hk := Tryz.strings_Join b off c (l.map fun t => (⟨t.toArray⟩ : ByteArray)) ⟨#[]⟩ w (fun j x hj => by
      rw [List.getElem?_map] at hj
      obtain ⟨t, ht, rfl⟩ := Option.map_eq_some_iff.1 hj
      have := h.cells j (txtV t) (by rw [List.getElem?_map, ht]; rfl)
      rw [Addr.add_lit] at this
      exact this) hb (by simpa [hln] using hn) (by simpa [hln] using hc) (by rw [hm]; show (Lib.join l []).length ≤ _; rw [join_flat]; exact hl)
    rw [hm, List.length_map, hln] at hk
    have e : Lib.join l (⟨#[]⟩ : ByteArray).data.toList = l.flatten := join_flat l
    rw [e] at hk
    exact hk

set_option maxRecDepth 100000 in
set_option maxHeartbeats 4000000 in
theorem append_calls (S : ByteArray) (Ao : Option Addr) (pn pc : Nat) (l : List Txt) (w : World) (h : CD B0 w R A d) (hf : Fit d) (hS : S.size ≤ 1073741824) (hB : B0 ≤ w.heap.size) (hF : Fails B0 a w) (hl : Strs w Ao pn l) (hpc : pn ≤ pc) (hpn : pn ≤ 140737488355328) (htl : l.flatten.length ≤ 140737488355328) (hu : usedL d d.things ≤ 4611686018427387904) (hcap : d.cap ≤ 4611686018427387904) (hnl : ∀ i, (fAt d i).now.length ≤ 1073741824) (hsl : ∀ i, (fAt d i).steps.length ≤ 1073741824) :
    Calls Tryz.prog 20 #[.pointer (some ⟨A.p, 0, none⟩), .string S, .slice Ao pn pc] w (NamesOut B0 a R A (appendD d S.data.toList l.flatten) ⟨#[97, 112, 112, 101, 110, 100]⟩ S w) := by
  obtain ⟨i0, hi0, hz0, hz1, hz2⟩ := info_parts info_change
  have HF := Lib.hid (file_calls (a := a) ⟨#[97, 112, 112, 101, 110, 100]⟩ S w h hf hS hB hF)
  obtain ⟨r, hr⟩ : ∃ r, fileD d S.data.toList = r := ⟨_, rfl⟩
  have HR := Lib.hid hr
  rw [hr] at HF
  obtain ⟨p, hp⟩ : ∃ p, A.p = p := ⟨_, rfl⟩
  have HP := Lib.hid hp
  have HNL := Lib.hid hnl
  have HSL := Lib.hid hsl
  have HJ := Lib.hid (fun w1 (hb : Below w.heap.size w w1) => joins_calls Ao pn pc l w1 (hl.below hb) hpc hpn htl)
  obtain ⟨X, hX⟩ : ∃ X : ByteArray, (⟨l.flatten.toArray⟩ : ByteArray) = X := ⟨_, rfl⟩
  have hXX : l.flatten = X.data.toList := by rw [← hX]
  have hXs : X.size ≤ 140737488355328 := by rw [← text_size3, ← hXX]; exact htl
  rw [hX] at HJ
  rw [hXX] at ⊢
  rw [hp] at HF ⊢
  clear hr hp hnl hsl hX hXX hl hpc hpn htl
  go_enter Tryz.func20, Tryz.ntmps20
  go_wp2_with fail
  refine HF.out.mono ?_
  rintro _ w1 ⟨hb1, hm⟩
  cases r with
  | error k =>
    obtain ⟨hk, v, rfl, hv⟩ := hm
    have hfin : NamesOut B0 a R A (appendD d S.data.toList X.data.toList) ⟨#[97, 112, 112, 101, 110, 100]⟩ S w (.returned v) w1 := by
      have e1 : appendD d S.data.toList X.data.toList = (k, d) := by unfold appendD; rw [HR.out]
      rw [e1]
      exact NamesOut.bad h hb1 hv
    have HFIN := Lib.hid hfin
    cases k with
    | zero => exact absurd rfl hk
    | succ k =>
      obtain ⟨q, rfl, _⟩ := hv
      clear hfin
      go_wp2_with fail
      go_ret
      exact HFIN.out
  | ok i =>
    have hm' : _ = Ending.returned (.tuple #[fptr A.φ i, .nilIface]) := hm
    subst hm'
    obtain ⟨hi, _⟩ := fileD_ok hf HR.out
    unfold fptr
    obtain ⟨b, hb⟩ : ∃ b, A.φ[i]?.getD 0 = b := ⟨_, rfl⟩
    have HBB := Lib.hid hb
    rw [hb]
    clear hb
    go_wp2_with fail
    refine (HJ.out w1 hb1).mono ?_
    rintro _ w2 ⟨rfl, hb2⟩
    have hB2 := then_ hb1 hb2
    have hcd2 := h.below hB2
    have hF2 := hF.below (hB2.mono hB)
    have c5 : w2.cell? ⟨p, 5, none⟩ = some (.int .i64 (d.cap : Int)) := by rw [← HP.out]; exact Blk.cell hcd2.blk 5
    have HUS := Lib.hid (fun x : Later w2 => used_calls x.w (hcd2.below x.h) hf hu)
    rw [HP.out] at HUS
    have hpl : p < w2.heap.size := lt_of_cell c5
    obtain ⟨n, hn⟩ : ∃ n, usedD d = n := ⟨_, rfl⟩
    obtain ⟨cap, hcp⟩ : ∃ n, d.cap = n := ⟨_, rfl⟩
    have hun : n ≤ 4611686018427387904 := by
      rw [← hn]; unfold usedD; split
      · omega
      · exact hu
    rw [hn] at HUS
    rw [hcp] at c5 hcap
    have HN := Lib.hid hn
    have HCP := Lib.hid hcp
    have HCD2 := Lib.hid hcd2
    have HF2 := Lib.hid hF2
    clear hn hcp hcd2 hF2 hb2 hb1
    have happ : appendD d S.data.toList X.data.toList = if cap < n + X.size then (7, d) else if (stepD d).1 ≠ 0 then stepD d else (0, setF (stepD d).2 i { fAt d i with now := (fAt d i).now ++ X.data.toList, steps := (fAt d i).steps ++ [⟨X.data.toList, false, 0⟩] }) := by
      unfold appendD; rw [HR.out]; simp only []; rw [HCP.out, HN.out, text_size3]
    have HAPP := Lib.hid happ
    clear happ
    go_upto_region 5 with fail
    by_cases hfull : cap < n + X.size
    · have d1 : decide ((cap : Int) - (n : Int) < (X.size : Int)) = true := by simp; omega
      refine wp_region_later (by kernel_rfl) (by kernel_rfl) ?_
      repeat (go_big_quiet_step ((go_at_call 30; exact quiet_later _ (HUS.out _))))
      refine wpQuiet_nil ?_
      rintro w3 ⟨⟨_, hb3⟩, rfl⟩
      have e1 : appendD d S.data.toList X.data.toList = (7, d) := by rw [HAPP.out, if_pos hfull]
      have HE := Lib.hid e1
      have hF3 := HF2.out.below (hb3.mono (by have := hB2.size; omega))
      have f7 : _ = some (failV a 7) := (hF3 7 (by decide)).2
      have hfl := fail_calls (a := a) ⟨#[97, 112, 112, 101, 110, 100]⟩ S 6 w3
      unfold failV at f7 hfl
      simp only [failG] at f7
      have HFL := Lib.hid hfl
      have HB3 := Lib.hid (then_ hB2 hb3)
      clear e1 hfl hF3 hb3 c5 hpl
      go_wp2_with fail
      refine HFL.out.mono ?_
      rintro e w5 ⟨v, rfl, hv5, hb5⟩
      have HFIN := Lib.hid (show NamesOut B0 a R A (appendD d S.data.toList X.data.toList) ⟨#[97, 112, 112, 101, 110, 100]⟩ S w (.returned v) w5 by rw [HE.out]; exact NamesOut.bad h (then_ HB3.out hb5) hv5)
      clear hv5
      go_wp2_with fail
      go_ret
      exact HFIN.out
    · have d1 : decide ((cap : Int) - (n : Int) < (X.size : Int)) = false := by simp; omega
      refine wp_region_later (by kernel_rfl) (by kernel_rfl) ?_
      repeat (go_big_quiet_step ((go_at_call 30; exact quiet_later _ (HUS.out _))))
      refine wpQuiet_nil ?_
      rintro w3 ⟨⟨_, hb3⟩, rfl⟩
      have hB3 := then_ hB2 hb3
      have hcd3 := h.below hB3
      have hF3 := hF.below (hB3.mono hB)
      have HST := Lib.hid (step_calls (a := a) ⟨#[97, 112, 112, 101, 110, 100]⟩ S w3 hcd3 hf.aw (by have := hB3.size; omega) hF3)
      rw [HP.out] at HST
      have HSS := Lib.hid (stepD_same d)
      obtain ⟨k, dd, hk⟩ : ∃ k d1, stepD d = (k, d1) := ⟨_, _, rfl⟩
      have HK := Lib.hid hk
      have happ := HAPP.out
      rw [if_neg hfull] at happ
      have HAP2 := Lib.hid happ
      clear hk hcd3 hF3 happ c5 hpl hb3 hfull d1
      go_wp2_with fail
      refine HST.out.mono ?_
      rintro _ w4 ⟨v, rfl, hv4, hcd4, hO4, _⟩
      rw [HK.out] at hv4 hcd4
      cases k with
      | succ k =>
        have hfin : NamesOut B0 a R A (appendD d S.data.toList X.data.toList) ⟨#[97, 112, 112, 101, 110, 100]⟩ S w (.returned v) w4 := by
          rw [HAP2.out, HK.out]
          exact ⟨v, R, A, rfl, hv4, hcd4, (Own.of_below hB3).trans hO4, rfl, rfl⟩
        have HFIN := Lib.hid hfin
        obtain ⟨q, rfl, _⟩ := hv4
        clear hfin hcd4 hO4
        go_wp2_with fail
        go_ret
        exact HFIN.out
      | zero =>
        obtain rfl : v = .nilIface := hv4
        have hss := HSS.out
        rw [HK.out] at hss
        have hi1 : i < dd.files.length := by rw [hss.2.2.2]; exact hi
        obtain ⟨u, hblk, hrb, hrow⟩ := file_at hcd4 hi1
        have efa : fAt dd i = fAt d i := by unfold fAt; rw [hss.2.2.2]
        rw [HBB.out] at hblk hrb
        obtain ⟨T, hT⟩ : ∃ T : ByteArray, (⟨(fAt d i).now.toArray⟩ : ByteArray) = T := ⟨_, rfl⟩
        have hTT : T.data.toList = (fAt d i).now := by rw [← hT]
        have hTz : T.size ≤ 1073741824 := by rw [← text_size3, hTT]; exact HNL.out i
        have hTv : txtV (fAt dd i).now = .string T := by rw [efa]; unfold txtV; rw [hT]
        obtain ⟨l0, hl⟩ : ∃ l, (fAt dd i).steps.length = l := ⟨_, rfl⟩
        have hrow' := hrow.1
        rw [hl] at hrow'
        have hll : l0 ≤ 1073741824 := by rw [← hl, efa]; exact HSL.out i
        obtain ⟨A4, c4, hu4⟩ : ∃ A4 c4, u = .slice A4 l0 c4 := by
          rcases hrow'.2 with ⟨rfl, h0⟩ | ⟨g, cap, cur, rfl, _⟩
          · exact ⟨none, 0, by rw [h0]⟩
          · exact ⟨_, cap, rfl⟩
        subst hu4
        have c0' : w4.cell? ⟨b, 0, none⟩ = some (.string T) := by rw [← hTv]; exact hblk.cell 0
        have c2' : w4.cell? ⟨b, 2, none⟩ = some (.slice A4 l0 c4) := hblk.cell 2
        have g0 := hblk.frozen 0
        have hNv : txtV ((fAt d i).now ++ X.data.toList) = .string (T ++ X) := by unfold txtV; rw [← hTT]; exact congrArg _ (bytes_of (by simp)).symm
        have HNV := Lib.hid hNv
        have HBLK := Lib.hid hblk
        have HCD4 := Lib.hid hcd4
        have HO4 := Lib.hid hO4
        have HROW := Lib.hid hrow.2
        have HL := Lib.hid hl
        have HEF := Lib.hid efa
        have hbl2 := hblk.lt
        clear hcd4 hO4 hTv hNv hblk hss hl efa hrow hT hTT
        go_upto_region 11 with fail
        have hrow2 : (w4.setCell ⟨b, 0, none⟩ (.string (T ++ X))).ownsRow 0 151 2 (.slice A4 l0 c4) l0 ((fAt dd i).steps.flatMap encC) := ownsRow_setCell_other hrow' (a := ⟨b, 0, none⟩) (fun e => by have := HROW.out b e; omega) _
        have c2'' : (w4.setCell ⟨b, 0, none⟩ (.string (T ++ X))).cell? ⟨b, 2, none⟩ = some (.slice A4 l0 c4) := (HBLK.out.set_ 0 _).cell 2
        have hblk5 := HBLK.out.set_ 0 (.string (T ++ X))
        obtain ⟨w5, hw5⟩ : ∃ x, w4.setCell ⟨b, 0, none⟩ (.string (T ++ X)) = x := ⟨_, rfl⟩
        have HW5 := Lib.hid hw5
        rw [hw5] at hrow2 c2'' hblk5 ⊢
        clear hw5 c0' c2' g0 hrow'
        go_wp2_with (at_builtin; refine wpList_append_own_at _ rfl _ _ 141 rfl 0 151 i0 (.agg #[.string ⟨#[]⟩, .int .i64 0]) 2 24 Tryz.underlying141 hi0 hz0 hz1 hz2 rfl (by decide) _ _ _ rfl (hrow2.alloc _) ⟨w5.heap.size, 0, none⟩ 1 1 [.string X, .int .i64 (-1)] rfl rfl ?p1 ?p2 ?p3 ?p4 ?p5 ?_)
        case p1 => exact news_of_blk (l := [.string X, .int .i64 (-1)]) (Blk.new w5 _ _)
        case p2 => intro u hu; simp at hu; rcases hu with rfl | rfl <;> rfl
        case p3 => unfold maxLen; omega
        case p4 => omega
        case p5 => exact Nat.zero_le _
        intro v' w6 hown' hgrow _ hat
        have hall : w5.grownBy w6 (Value.slice A4 l0 c4).ownBlock := (World.grownBy_alloc w5 _ _).trans hgrow
        have hsz5 : w5.heap.size = w4.heap.size := by rw [← HW5.out]; simp [World.setCell]
        obtain ⟨A6, c6, rfl⟩ : ∃ A6 c6, v' = .slice A6 (l0 + 1) c6 := by
          rcases hown'.2 with ⟨rfl, h0⟩ | ⟨g, cap, cur, rfl, _⟩
          · omega
          · exact ⟨_, cap, rfl⟩
        have hat' : (Value.slice A6 (l0 + 1) c6).ownBlock = (Value.slice A4 l0 c4).ownBlock ∨ ∃ g, (Value.slice A6 (l0 + 1) c6).ownBlock = some g ∧ w4.heap.size ≤ g := by
          rcases hat with h1 | h1
          · exact .inl h1
          · exact .inr ⟨_, h1, by omega⟩
        have hencX : encC ⟨X.data.toList, false, 0⟩ = [.string X, .int .i64 (-1)] := by
          have : txtV X.data.toList = .string X := by unfold txtV; rw [← bytes_of rfl]
          unfold encC; rw [this]; rfl
        have hmore := CD.file_step HCD4.out hi1 HBB.out (u := .slice A4 l0 c4) (v' := .slice A6 (l0 + 1) c6) (N := (fAt d i).now ++ X.data.toList) (c := ⟨X.data.toList, false, 0⟩) (w3 := w6) HBLK.out hrb HROW.out (by rw [HNV.out, HW5.out]; exact hall) (by rw [HL.out, hencX]; exact hown') hat' (by have := hB3.size; have := HO4.out.size; omega)
        obtain ⟨hc7, ho7⟩ := hmore
        have hbu : some b ≠ (Value.slice A4 l0 c4).ownBlock := by
          intro e
          have := HROW.out b e.symm
          omega
        have hblk6 := hblk5.grown hall hbu
        have k2 : w6.cell? ⟨b, 2, none⟩ = some (.slice A4 l0 c4) := hblk6.cell 2
        have g2 := hblk6.frozen 2
        have hfin : NamesOut B0 a R A (appendD d S.data.toList X.data.toList) ⟨#[97, 112, 112, 101, 110, 100]⟩ S w (.returned .nilIface) (w6.setCell ⟨b, 2, none⟩ (.slice A6 (l0 + 1) c6)) := by
          rw [HAP2.out, HK.out]
          rw [HEF.out] at hc7
          exact ⟨.nilIface, _, A, rfl, rfl, hc7, ((Own.of_below hB3).trans HO4.out).trans ho7, rfl, rfl⟩
        have HFIN := Lib.hid hfin
        clear hfin hc7 ho7 hat hat' hall hgrow hown' hblk6 hblk5 hrow2 c2'' hsz5
        go_wp2_with fail
        go_ret
        exact HFIN.out
end
end Go.Proofs.YtfpgbhimgfdddaaGreatDoor
