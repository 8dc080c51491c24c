/- Merged: DskWalksU, DskWalksV. -/
import Derived.Test.YtdaidbnbfjgjeaaGreatDoorDsa11
set_option linter.unusedVariables false
set_option linter.unusedSimpArgs false
/-! ## DskWalksU -/
/- The walks of layer 3 (disk): Append. -/
namespace Go.Proofs.YtdaidbnbfjgjeaaGreatDoor
open Go.RowKit Go.Shelf Go.Maps Go.Sort
attribute [local go_sem ↓] Go.wp_at_zero Go.wp_at_succ
attribute [local go_sem] Later.cell Later.frozen

section
variable {B0 : Nat} {a : Nat → Addr} {R : Nat → Nat} {A : Adr} {d : Ds} {w w' : World}
theorem join_flat (l : List Txt) : Lib.join l [] = l.flatten := by
  cases l with
  | nil => rfl
  | cons x r => rw [Lib.join_cons]; simp [Lib.joinTail]
theorem joins_calls (Ao : Option Addr) (n c : Nat) (l : List Txt) (w : World) (h : Strs w Ao n l) (hc : n ≤ c) (hn : n ≤ 140737488355328) (hl : l.flatten.length ≤ 140737488355328) :
    Calls Tryz.prog 37 #[.slice Ao n c, .string ⟨#[]⟩] w fun e w' => e = .returned (.string ⟨l.flatten.toArray⟩) ∧ Below w.heap.size w w' := by
  have hln := h.len
  by_cases h0 : n = 0
  · subst h0
    obtain rfl : l = [] := List.eq_nil_of_length_eq_zero hln
    refine (Tryz.strings_Join_none Ao c ⟨#[]⟩ w).mono ?_
    rintro _ w1 ⟨rfl, rfl⟩
    exact ⟨rfl, Below.refl _ _⟩
  · obtain ⟨b, off, rfl, hb, _⟩ := h.at_ (i := 0) (by omega)
    have hm : (l.map fun t => (⟨t.toArray⟩ : ByteArray)).map (·.data.toList) = l := by simp [Function.comp_def]
    have hk := Tryz.strings_Join b off c (l.map fun t => (⟨t.toArray⟩ : ByteArray)) ⟨#[]⟩ w (fun j x hj => by
      rw [List.getElem?_map] at hj
      obtain ⟨t, ht, rfl⟩ := Option.map_eq_some_iff.1 hj
      have := h.cells j (txtV t) (by rw [List.getElem?_map, ht]; rfl)
      rw [Addr.add_lit] at this
      exact this) hb (by simpa [hln] using hn) (by simpa [hln] using hc) (by rw [hm]; show (Lib.join l []).length ≤ _; rw [join_flat]; exact hl)
    rw [hm, List.length_map, hln] at hk
    have e : Lib.join l (⟨#[]⟩ : ByteArray).data.toList = l.flatten := join_flat l
    rw [e] at hk
    exact hk

set_option maxRecDepth 100000 in
set_option maxHeartbeats 4000000 in
theorem append_calls (S : ByteArray) (Ao : Option Addr) (pn pc : Nat) (l : List Txt) (w : World) (h : CD B0 w R A d) (hf : Fit d) (hS : S.size ≤ 1073741824) (hB : B0 ≤ w.heap.size) (hF : Fails B0 a w) (hl : Strs w Ao pn l) (hpc : pn ≤ pc) (hpn : pn ≤ 140737488355328) (htl : l.flatten.length ≤ 140737488355328) (hu : usedL d d.things ≤ 4611686018427387904) (hcap : d.cap ≤ 4611686018427387904) (hnl : ∀ i, (fAt d i).now.length ≤ 1073741824) (hsl : ∀ i, (fAt d i).steps.length ≤ 1073741824) :
    Calls Tryz.prog 13 #[.pointer (some ⟨A.p, 0, none⟩), .string S, .slice Ao pn pc] w (NamesOut B0 a R A (appendD d S.data.toList l.flatten) ⟨#[97, 112, 112, 101, 110, 100]⟩ S w) := by
  obtain ⟨i0, hi0, hz0, hz1, hz2⟩ := info_parts info_change
  have HF := Lib.hid (file_calls (a := a) ⟨#[97, 112, 112, 101, 110, 100]⟩ S w h hf hS hB hF)
  obtain ⟨r, hr⟩ : ∃ r, fileD d S.data.toList = r := ⟨_, rfl⟩
  have HR := Lib.hid hr
  rw [hr] at HF
  obtain ⟨p, hp⟩ : ∃ p, A.p = p := ⟨_, rfl⟩
  have HP := Lib.hid hp
  have HNL := Lib.hid hnl
  have HSL := Lib.hid hsl
  have HJ := Lib.hid (fun w1 (hb : Below w.heap.size w w1) => joins_calls Ao pn pc l w1 (hl.below hb) hpc hpn htl)
  obtain ⟨X, hX⟩ : ∃ X : ByteArray, (⟨l.flatten.toArray⟩ : ByteArray) = X := ⟨_, rfl⟩
  have hXX : l.flatten = X.data.toList := by rw [← hX]
  have hXs : X.size ≤ 140737488355328 := by rw [← text_size3, ← hXX]; exact htl
  rw [hX] at HJ
  rw [hXX] at ⊢
  rw [hp] at HF ⊢
  clear hr hp hnl hsl hX hXX hl hpc hpn htl
  go_enter Tryz.func13, Tryz.ntmps13
  go_wp2_with fail
  refine HF.out.mono ?_
  rintro _ w1 ⟨hb1, hm⟩
  cases r with
  | error k =>
    obtain ⟨hk, v, rfl, hv⟩ := hm
    have hfin : NamesOut B0 a R A (appendD d S.data.toList X.data.toList) ⟨#[97, 112, 112, 101, 110, 100]⟩ S w (.returned v) w1 := by
      have e1 : appendD d S.data.toList X.data.toList = (k, d) := by unfold appendD; rw [HR.out]
      rw [e1]
      exact NamesOut.bad h hb1 hv
    have HFIN := Lib.hid hfin
    cases k with
    | zero => exact absurd rfl hk
    | succ k =>
      obtain ⟨q, rfl, _⟩ := hv
      clear hfin
      go_wp2_with fail
      go_ret
      exact HFIN.out
  | ok i =>
    have hm' : _ = Ending.returned (.tuple #[fptr A.φ i, .nilIface]) := hm
    subst hm'
    obtain ⟨hi, _⟩ := fileD_ok hf HR.out
    unfold fptr
    obtain ⟨b, hb⟩ : ∃ b, A.φ[i]?.getD 0 = b := ⟨_, rfl⟩
    have HBB := Lib.hid hb
    rw [hb]
    clear hb
    go_wp2_with fail
    refine (HJ.out w1 hb1).mono ?_
    rintro _ w2 ⟨rfl, hb2⟩
    have hB2 := then_ hb1 hb2
    have hcd2 := h.below hB2
    have hF2 := hF.below (hB2.mono hB)
    have c5 : w2.cell? ⟨p, 5, none⟩ = some (.int .i64 (d.cap : Int)) := by rw [← HP.out]; exact Blk.cell hcd2.blk 5
    have HUS := Lib.hid (fun x : Later w2 => used_calls x.w (hcd2.below x.h) hf hu)
    rw [HP.out] at HUS
    have hpl : p < w2.heap.size := lt_of_cell c5
    obtain ⟨n, hn⟩ : ∃ n, usedD d = n := ⟨_, rfl⟩
    obtain ⟨cap, hcp⟩ : ∃ n, d.cap = n := ⟨_, rfl⟩
    have hun : n ≤ 4611686018427387904 := by
      rw [← hn]; unfold usedD; split
      · omega
      · exact hu
    rw [hn] at HUS
    rw [hcp] at c5 hcap
    have HN := Lib.hid hn
    have HCP := Lib.hid hcp
    have HCD2 := Lib.hid hcd2
    have HF2 := Lib.hid hF2
    clear hn hcp hcd2 hF2 hb2 hb1
    have happ : appendD d S.data.toList X.data.toList = if cap < n + X.size then (7, d) else if (stepD d).1 ≠ 0 then stepD d else (0, setF (stepD d).2 i { fAt d i with now := (fAt d i).now ++ X.data.toList, steps := (fAt d i).steps ++ [⟨X.data.toList, false, 0⟩] }) := by
      unfold appendD; rw [HR.out]; simp only []; rw [HCP.out, HN.out, text_size3]
    have HAPP := Lib.hid happ
    clear happ
    go_upto_region 5 with fail
    by_cases hfull : cap < n + X.size
    · have d1 : decide ((cap : Int) - (n : Int) < (X.size : Int)) = true := by simp; omega
      refine wp_region_later (by kernel_rfl) (by kernel_rfl) ?_
      repeat (go_big_quiet_step ((go_at_call 24; exact quiet_later _ (HUS.out _))))
      refine wpQuiet_nil ?_
      rintro w3 ⟨⟨_, hb3⟩, rfl⟩
      have e1 : appendD d S.data.toList X.data.toList = (7, d) := by rw [HAPP.out, if_pos hfull]
      have HE := Lib.hid e1
      have hF3 := HF2.out.below (hb3.mono (by have := hB2.size; omega))
      have f7 : _ = some (failV a 7) := (hF3 7 (by decide)).2
      have hfl := fail_calls (a := a) ⟨#[97, 112, 112, 101, 110, 100]⟩ S 6 w3
      unfold failV at f7 hfl
      simp only [failG] at f7
      have HFL := Lib.hid hfl
      have HB3 := Lib.hid (then_ hB2 hb3)
      clear e1 hfl hF3 hb3 c5 hpl
      go_wp2_with fail
      refine HFL.out.mono ?_
      rintro e w5 ⟨v, rfl, hv5, hb5⟩
      have HFIN := Lib.hid (show NamesOut B0 a R A (appendD d S.data.toList X.data.toList) ⟨#[97, 112, 112, 101, 110, 100]⟩ S w (.returned v) w5 by rw [HE.out]; exact NamesOut.bad h (then_ HB3.out hb5) hv5)
      clear hv5
      go_wp2_with fail
      go_ret
      exact HFIN.out
    · have d1 : decide ((cap : Int) - (n : Int) < (X.size : Int)) = false := by simp; omega
      refine wp_region_later (by kernel_rfl) (by kernel_rfl) ?_
      repeat (go_big_quiet_step ((go_at_call 24; exact quiet_later _ (HUS.out _))))
      refine wpQuiet_nil ?_
      rintro w3 ⟨⟨_, hb3⟩, rfl⟩
      have hB3 := then_ hB2 hb3
      have hcd3 := h.below hB3
      have hF3 := hF.below (hB3.mono hB)
      have HST := Lib.hid (step_calls (a := a) ⟨#[97, 112, 112, 101, 110, 100]⟩ S w3 hcd3 hf.aw (by have := hB3.size; omega) hF3)
      rw [HP.out] at HST
      have HSS := Lib.hid (stepD_same d)
      obtain ⟨k, dd, hk⟩ : ∃ k d1, stepD d = (k, d1) := ⟨_, _, rfl⟩
      have HK := Lib.hid hk
      have happ := HAPP.out
      rw [if_neg hfull] at happ
      have HAP2 := Lib.hid happ
      clear hk hcd3 hF3 happ c5 hpl hb3 hfull d1
      go_wp2_with fail
      refine HST.out.mono ?_
      rintro _ w4 ⟨v, rfl, hv4, hcd4, hO4, _⟩
      rw [HK.out] at hv4 hcd4
      cases k with
      | succ k =>
        have hfin : NamesOut B0 a R A (appendD d S.data.toList X.data.toList) ⟨#[97, 112, 112, 101, 110, 100]⟩ S w (.returned v) w4 := by
          rw [HAP2.out, HK.out]
          exact ⟨v, R, A, rfl, hv4, hcd4, (Own.of_below hB3).trans hO4, rfl, rfl⟩
        have HFIN := Lib.hid hfin
        obtain ⟨q, rfl, _⟩ := hv4
        clear hfin hcd4 hO4
        go_wp2_with fail
        go_ret
        exact HFIN.out
      | zero =>
        obtain rfl : v = .nilIface := hv4
        have hss := HSS.out
        rw [HK.out] at hss
        have hi1 : i < dd.files.length := by rw [hss.2.2.2]; exact hi
        obtain ⟨u, hblk, hrb, hrow⟩ := file_at hcd4 hi1
        have efa : fAt dd i = fAt d i := by unfold fAt; rw [hss.2.2.2]
        rw [HBB.out] at hblk hrb
        obtain ⟨T, hT⟩ : ∃ T : ByteArray, (⟨(fAt d i).now.toArray⟩ : ByteArray) = T := ⟨_, rfl⟩
        have hTT : T.data.toList = (fAt d i).now := by rw [← hT]
        have hTz : T.size ≤ 1073741824 := by rw [← text_size3, hTT]; exact HNL.out i
        have hTv : txtV (fAt dd i).now = .string T := by rw [efa]; unfold txtV; rw [hT]
        obtain ⟨l0, hl⟩ : ∃ l, (fAt dd i).steps.length = l := ⟨_, rfl⟩
        have hrow' := hrow.1
        rw [hl] at hrow'
        have hll : l0 ≤ 1073741824 := by rw [← hl, efa]; exact HSL.out i
        obtain ⟨A4, c4, hu4⟩ : ∃ A4 c4, u = .slice A4 l0 c4 := by
          rcases hrow'.2 with ⟨rfl, h0⟩ | ⟨g, cap, cur, rfl, _⟩
          · exact ⟨none, 0, by rw [h0]⟩
          · exact ⟨_, cap, rfl⟩
        subst hu4
        have c0' : w4.cell? ⟨b, 0, none⟩ = some (.string T) := by rw [← hTv]; exact hblk.cell 0
        have c2' : w4.cell? ⟨b, 2, none⟩ = some (.slice A4 l0 c4) := hblk.cell 2
        have g0 := hblk.frozen 0
        have hNv : txtV ((fAt d i).now ++ X.data.toList) = .string (T ++ X) := by unfold txtV; rw [← hTT]; exact congrArg _ (bytes_of (by simp)).symm
        have HNV := Lib.hid hNv
        have HBLK := Lib.hid hblk
        have HCD4 := Lib.hid hcd4
        have HO4 := Lib.hid hO4
        have HROW := Lib.hid hrow.2
        have HL := Lib.hid hl
        have HEF := Lib.hid efa
        have hbl2 := hblk.lt
        clear hcd4 hO4 hTv hNv hblk hss hl efa hrow hT hTT
        go_upto_region 11 with fail
        have hrow2 : (w4.setCell ⟨b, 0, none⟩ (.string (T ++ X))).ownsRow 0 87 2 (.slice A4 l0 c4) l0 ((fAt dd i).steps.flatMap encC) := ownsRow_setCell_other hrow' (a := ⟨b, 0, none⟩) (fun e => by have := HROW.out b e; omega) _
        have c2'' : (w4.setCell ⟨b, 0, none⟩ (.string (T ++ X))).cell? ⟨b, 2, none⟩ = some (.slice A4 l0 c4) := (HBLK.out.set_ 0 _).cell 2
        have hblk5 := HBLK.out.set_ 0 (.string (T ++ X))
        obtain ⟨w5, hw5⟩ : ∃ x, w4.setCell ⟨b, 0, none⟩ (.string (T ++ X)) = x := ⟨_, rfl⟩
        have HW5 := Lib.hid hw5
        rw [hw5] at hrow2 c2'' hblk5 ⊢
        clear hw5 c0' c2' g0 hrow'
        go_wp2_with (at_builtin; refine wpList_append_own_at _ rfl _ _ 79 rfl 0 87 i0 (.agg #[.string ⟨#[]⟩, .int .i64 0]) 2 24 Tryz.underlying79 hi0 hz0 hz1 hz2 rfl (by decide) _ _ _ rfl (hrow2.alloc _) ⟨w5.heap.size, 0, none⟩ 1 1 [.string X, .int .i64 (-1)] rfl rfl ?p1 ?p2 ?p3 ?p4 ?p5 ?_)
        case p1 => exact news_of_blk (l := [.string X, .int .i64 (-1)]) (Blk.new w5 _ _)
        case p2 => intro u hu; simp at hu; rcases hu with rfl | rfl <;> rfl
        case p3 => unfold maxLen; omega
        case p4 => omega
        case p5 => exact Nat.zero_le _
        intro v' w6 hown' hgrow _ hat
        have hall : w5.grownBy w6 (Value.slice A4 l0 c4).ownBlock := (World.grownBy_alloc w5 _ _).trans hgrow
        have hsz5 : w5.heap.size = w4.heap.size := by rw [← HW5.out]; simp [World.setCell]
        obtain ⟨A6, c6, rfl⟩ : ∃ A6 c6, v' = .slice A6 (l0 + 1) c6 := by
          rcases hown'.2 with ⟨rfl, h0⟩ | ⟨g, cap, cur, rfl, _⟩
          · omega
          · exact ⟨_, cap, rfl⟩
        have hat' : (Value.slice A6 (l0 + 1) c6).ownBlock = (Value.slice A4 l0 c4).ownBlock ∨ ∃ g, (Value.slice A6 (l0 + 1) c6).ownBlock = some g ∧ w4.heap.size ≤ g := by
          rcases hat with h1 | h1
          · exact .inl h1
          · exact .inr ⟨_, h1, by omega⟩
        have hencX : encC ⟨X.data.toList, false, 0⟩ = [.string X, .int .i64 (-1)] := by
          have : txtV X.data.toList = .string X := by unfold txtV; rw [← bytes_of rfl]
          unfold encC; rw [this]; rfl
        have hmore := CD.file_step HCD4.out hi1 HBB.out (u := .slice A4 l0 c4) (v' := .slice A6 (l0 + 1) c6) (N := (fAt d i).now ++ X.data.toList) (c := ⟨X.data.toList, false, 0⟩) (w3 := w6) HBLK.out hrb HROW.out (by rw [HNV.out, HW5.out]; exact hall) (by rw [HL.out, hencX]; exact hown') hat' (by have := hB3.size; have := HO4.out.size; omega)
        obtain ⟨hc7, ho7⟩ := hmore
        have hbu : some b ≠ (Value.slice A4 l0 c4).ownBlock := by
          intro e
          have := HROW.out b e.symm
          omega
        have hblk6 := hblk5.grown hall hbu
        have k2 : w6.cell? ⟨b, 2, none⟩ = some (.slice A4 l0 c4) := hblk6.cell 2
        have g2 := hblk6.frozen 2
        have hfin : NamesOut B0 a R A (appendD d S.data.toList X.data.toList) ⟨#[97, 112, 112, 101, 110, 100]⟩ S w (.returned .nilIface) (w6.setCell ⟨b, 2, none⟩ (.slice A6 (l0 + 1) c6)) := by
          rw [HAP2.out, HK.out]
          rw [HEF.out] at hc7
          exact ⟨.nilIface, _, A, rfl, rfl, hc7, ((Own.of_below hB3).trans HO4.out).trans ho7, rfl, rfl⟩
        have HFIN := Lib.hid hfin
        clear hfin hc7 ho7 hat hat' hall hgrow hown' hblk6 hblk5 hrow2 c2'' hsz5
        go_wp2_with fail
        go_ret
        exact HFIN.out
end
end Go.Proofs.YtdaidbnbfjgjeaaGreatDoor

/-! ## DskWalksV -/
/- The walks of layer 3 (disk): Rename. -/
namespace Go.Proofs.YtdaidbnbfjgjeaaGreatDoor
open Go.RowKit Go.Shelf Go.Maps Go.Sort
attribute [local go_sem ↓] Go.wp_at_zero Go.wp_at_succ
attribute [local go_sem] Later.cell Later.frozen

section
variable {B0 : Nat} {a : Nat → Addr} {R : Nat → Nat} {A : Adr} {d : Ds} {w w' : World}
/-- A world in the midst of Rename. -/
structure RS (w : World) (q : Nat) (S S2 : ByteArray) (W : World) : Prop where
  below : Below w.heap.size w W
  one : Blk W q 9 #[.string S]
  two : Blk W (q + 1) 9 #[.string S2]
theorem RS.later {q : Nat} {S S2 : ByteArray} {W W' : World} (h : RS w q S S2 W) (hb : Below W.heap.size W W') : RS w q S S2 W' := ⟨then_ h.below hb, h.one.below hb h.one.lt, h.two.below hb h.two.lt⟩
set_option maxRecDepth 100000 in
set_option maxHeartbeats 1000000 in
theorem rename_calls (S S2 : ByteArray) (w : World) (h : CD B0 w R A d) (hf : Fit d) (hS : S.size ≤ 1073741824) (hS2 : S2.size ≤ 1073741824) (hB : B0 ≤ w.heap.size) (hF : Fails B0 a w) :
    Calls Tryz.prog 57 #[.pointer (some ⟨A.p, 0, none⟩), .string S, .string S2] w (NamesOut B0 a R A (renameD d S.data.toList S2.data.toList) ⟨#[114, 101, 110, 97, 109, 101]⟩ S w) := by
  obtain ⟨r1, hr1⟩ : ∃ r, pathB S.data.toList = r := ⟨_, rfl⟩
  obtain ⟨r2, hr2⟩ : ∃ r, pathB S2.data.toList = r := ⟨_, rfl⟩
  have HN1 := Lib.hid (fun w => path_calls S r1 hr1 hS w)
  have HN2 := Lib.hid (fun w => path_calls S2 r2 hr2 hS2 w)
  have HR1 := Lib.hid hr1
  have HR2 := Lib.hid hr2
  obtain ⟨p, hp⟩ : ∃ p, A.p = p := ⟨_, rfl⟩
  have HP := Lib.hid hp
  rw [hp]
  clear hr1 hr2 hp
  go_enter Tryz.func57, Tryz.ntmps57
  go_upto_region 1 with fail
  obtain ⟨W, hw1⟩ : ∃ x, (w.alloc (.cells #[.string S] 9)).alloc (.cells #[.string S2] 9) = x := ⟨_, rfl⟩
  have hb1 : Below w.heap.size w W := by rw [← hw1]; exact ((Below.refl _ _).alloc (Nat.le_refl _) _).alloc (by simp) _
  have hk1 : Blk W w.heap.size 9 #[.string S] := by rw [← hw1]; exact (Blk.new _ _ _).alloc _
  have hk2 : Blk W (w.heap.size + 1) 9 #[.string S2] := by rw [← hw1]; exact Blk.newAt (by simp)
  rw [hw1]
  obtain ⟨q, hqq⟩ : ∃ q, w.heap.size = q := ⟨_, rfl⟩
  rw [hqq] at hk1 hk2 ⊢
  have HQ := Lib.hid hqq
  have HRS := Lib.hid (show RS w q S S2 W from ⟨hb1, hk1, hk2⟩)
  clear hw1 hqq hb1 hk1 hk2
  cases r1 with
  | false =>
    have hrs := HRS.out
    have hcd := h.below hrs.below
    have hF3 := hF.below (hrs.below.mono hB)
    have c0 : W.cell? ⟨p, 0, none⟩ = some (.map (some A.md)) := by rw [← HP.out]; exact Blk.cell hcd.blk 0
    have c1 : W.cell? ⟨p, 1, none⟩ = some (.map (some A.mf)) := by rw [← HP.out]; exact Blk.cell hcd.blk 1
    have q0 : W.cell? ⟨q, 0, none⟩ = some (.string S) := hrs.one.cell 0
    have q1 : W.cell? ⟨q + 1, 0, none⟩ = some (.string S2) := hrs.two.cell 0
    have hql := hrs.one.lt
    have hql2 := hrs.two.lt
    have hpl : p < W.heap.size := lt_of_cell c0
    refine wp_region_later_tail 8 (by kernel_rfl) (by kernel_rfl) ?_
    simp only [List.take_succ_cons, List.take_zero, List.drop_succ_cons, List.drop_zero]
    repeat (go_big_quiet_step ((go_at_call 33; exact quiet_later _ (HN1.out _))))
    refine wpQuiet_nil ?_
    rintro W ⟨⟨_, hb2⟩, rfl⟩
    have hrs2 := HRS.out.later hb2
    clear hrs hcd hF3 c0 c1 q0 q1 hql hql2 hpl hb2 HRS
    have HRS := Lib.hid hrs2
    clear hrs2
    have hrs := HRS.out
    have hcd := h.below hrs.below
    have hoff : W.cell? ⟨p, 6, none⟩ = some (.bool d.off) := by rw [← HP.out]; exact Blk.cell hcd.blk 6
    obtain ⟨k, hk⟩ : ∃ k, readyR d.off false = k := ⟨_, rfl⟩
    have HK := Lib.hid hk
    have HRD := Lib.hid (ready_calls (B0 := B0) (a := a) p d.off false ⟨#[114, 101, 110, 97, 109, 101]⟩ S k hk W hoff (hF.below (hrs.below.mono hB)))
    clear hk hcd hoff
    go_wp2_with fail
    refine HRD.out.mono ?_
    rintro _ W4 ⟨v, rfl, hv3, hb4⟩
    cases k with
    | succ k =>
      have hfin : NamesOut B0 a R A (renameD d S.data.toList S2.data.toList) ⟨#[114, 101, 110, 97, 109, 101]⟩ S w (.returned v) W4 := by
        have e1 : renameD d S.data.toList S2.data.toList = (k + 1, d) := by
          have hk := HK.out
          unfold readyR at hk
          unfold renameD
          rw [← hk, HR1.out, HR2.out]
          cases ho : d.off with
          | true => simp
          | false =>
            rw [ho] at hk
            first
              | (simp; done)
              | (cases r2 with
                 | true => simp at hk
                 | false => simp)
        rw [e1]
        exact NamesOut.bad h (then_ hrs.below hb4) hv3
      obtain ⟨q4, rfl, _⟩ := hv3
      have HFIN := Lib.hid hfin
      clear hfin hb4 hrs
      go_wp2_with fail
      go_ret
      exact HFIN.out
    | zero =>
      have hk := HK.out
      unfold readyR at hk
      cases ho : d.off <;> rw [ho] at hk <;> simp at hk
  | true =>
    have hrs := HRS.out
    have hcd := h.below hrs.below
    have hF3 := hF.below (hrs.below.mono hB)
    have c0 : W.cell? ⟨p, 0, none⟩ = some (.map (some A.md)) := by rw [← HP.out]; exact Blk.cell hcd.blk 0
    have c1 : W.cell? ⟨p, 1, none⟩ = some (.map (some A.mf)) := by rw [← HP.out]; exact Blk.cell hcd.blk 1
    have q0 : W.cell? ⟨q, 0, none⟩ = some (.string S) := hrs.one.cell 0
    have q1 : W.cell? ⟨q + 1, 0, none⟩ = some (.string S2) := hrs.two.cell 0
    have hql := hrs.one.lt
    have hql2 := hrs.two.lt
    have hpl : p < W.heap.size := lt_of_cell c0
    refine wp_region_later_tail 8 (by kernel_rfl) (by kernel_rfl) ?_
    simp only [List.take_succ_cons, List.take_zero, List.drop_succ_cons, List.drop_zero]
    repeat (go_big_quiet_step ((go_at_call 33; first | with_reducible exact quiet_later _ (HN1.out _) | with_reducible exact quiet_later _ (HN2.out _))))
    refine wpQuiet_nil ?_
    rintro W ⟨⟨_, hb2⟩, rfl⟩
    have hrs2 := HRS.out.later hb2
    clear hrs hcd hF3 c0 c1 q0 q1 hql hql2 hpl hb2 HRS
    have HRS := Lib.hid hrs2
    clear hrs2
    have hrs := HRS.out
    have hcd := h.below hrs.below
    have hoff : W.cell? ⟨p, 6, none⟩ = some (.bool d.off) := by rw [← HP.out]; exact Blk.cell hcd.blk 6
    obtain ⟨k, hk⟩ : ∃ k, readyR d.off r2 = k := ⟨_, rfl⟩
    have HK := Lib.hid hk
    have HRD := Lib.hid (ready_calls (B0 := B0) (a := a) p d.off r2 ⟨#[114, 101, 110, 97, 109, 101]⟩ S k hk W hoff (hF.below (hrs.below.mono hB)))
    clear hk hcd hoff
    go_wp2_with fail
    refine HRD.out.mono ?_
    rintro _ W4 ⟨v, rfl, hv3, hb4⟩
    cases k with
    | succ k =>
      have hfin : NamesOut B0 a R A (renameD d S.data.toList S2.data.toList) ⟨#[114, 101, 110, 97, 109, 101]⟩ S w (.returned v) W4 := by
        have e1 : renameD d S.data.toList S2.data.toList = (k + 1, d) := by
          have hk := HK.out
          unfold readyR at hk
          unfold renameD
          rw [← hk, HR1.out, HR2.out]
          cases ho : d.off with
          | true => simp
          | false =>
            rw [ho] at hk
            first
              | (simp; done)
              | (cases r2 with
                 | true => simp at hk
                 | false => simp)
        rw [e1]
        exact NamesOut.bad h (then_ hrs.below hb4) hv3
      obtain ⟨q4, rfl, _⟩ := hv3
      have HFIN := Lib.hid hfin
      clear hfin hb4 hrs
      go_wp2_with fail
      go_ret
      exact HFIN.out
    | zero =>
      obtain rfl : v = .nilIface := hv3
      obtain ⟨ho, hn⟩ : d.off = false ∧ r2 = true := by
        have hk := HK.out
        unfold readyR at hk
        cases ho : d.off with
        | true => rw [ho] at hk; simp at hk
        | false =>
          rw [ho] at hk
          cases r2 with
          | true => exact ⟨rfl, rfl⟩
          | false => simp at hk
      have e1 : renameD d S.data.toList S2.data.toList = if isT d.things S.data.toList = 2 ∧ nameB S2.data.toList = false then (2, d) else if isT d.things S.data.toList = 0 ∨ parentB d.things S2.data.toList = false then (4, d) else if isT d.things S2.data.toList = 2 ∨ (isT d.things S2.data.toList = 1 ∧ (isT d.things S.data.toList = 2 ∨ S.data.toList = S2.data.toList)) then (5, d) else namesD d (.rename S.data.toList S2.data.toList) := by
        unfold renameD
        rw [ho, HR1.out, HR2.out, hn]
        simp
      have HE1 := Lib.hid e1
      obtain rfl : r2 = true := hn
      have hrs4 := hrs.later hb4
      clear ho e1 HK hrs hb4 HRS HRD
      have HRS := Lib.hid hrs4
      clear hrs4 W
      revert W4
      intro W HRS
      obtain ⟨rp, hrp⟩ : ∃ r, parentB d.things S2.data.toList = r := ⟨_, rfl⟩
      have HRP := Lib.hid hrp
      rcases isT_range d.things S.data.toList with ka | ka | ka
      · have hrs := HRS.out
        have hcd := h.below hrs.below
        have hF3 := hF.below (hrs.below.mono hB)
        have c0 : W.cell? ⟨p, 0, none⟩ = some (.map (some A.md)) := by rw [← HP.out]; exact Blk.cell hcd.blk 0
        have c1 : W.cell? ⟨p, 1, none⟩ = some (.map (some A.mf)) := by rw [← HP.out]; exact Blk.cell hcd.blk 1
        have q0 : W.cell? ⟨q, 0, none⟩ = some (.string S) := hrs.one.cell 0
        have q1 : W.cell? ⟨q + 1, 0, none⟩ = some (.string S2) := hrs.two.cell 0
        have hql := hrs.one.lt
        have hql2 := hrs.two.lt
        have hpl : p < W.heap.size := lt_of_cell c0
        have hlk := look_dir hcd hf S hS 0 (by rw [ka]; rfl)
        go_upto_region 4 with fail
        refine wp_region_later (by kernel_rfl) (by kernel_rfl) ?_
        repeat (go_big_quiet_step (fail))
        clear hlk
        refine wpQuiet_nil ?_
        rintro W ⟨⟨_, hb2⟩, rfl⟩
        have hrs2 := HRS.out.later hb2
        clear hrs hcd hF3 c0 c1 q0 q1 hql hql2 hpl hb2 HRS
        have HRS := Lib.hid hrs2
        clear hrs2
        have hrs := HRS.out
        have hcd := h.below hrs.below
        have hF3 := hF.below (hrs.below.mono hB)
        have c0 : W.cell? ⟨p, 0, none⟩ = some (.map (some A.md)) := by rw [← HP.out]; exact Blk.cell hcd.blk 0
        have c1 : W.cell? ⟨p, 1, none⟩ = some (.map (some A.mf)) := by rw [← HP.out]; exact Blk.cell hcd.blk 1
        have q0 : W.cell? ⟨q, 0, none⟩ = some (.string S) := hrs.one.cell 0
        have q1 : W.cell? ⟨q + 1, 0, none⟩ = some (.string S2) := hrs.two.cell 0
        have hql := hrs.one.lt
        have hql2 := hrs.two.lt
        have hpl : p < W.heap.size := lt_of_cell c0
        obtain ⟨P, hP, hlf⟩ := look_fil hcd hf S hS
        obtain rfl : P = none := hP.2 (by rw [ka]; omega)
        go_upto_region 7 with fail
        refine wp_region_later (by kernel_rfl) (by kernel_rfl) ?_
        repeat (go_big_quiet_step (fail))
        clear hlf hP
        refine wpQuiet_nil ?_
        rintro W ⟨⟨_, hb2⟩, rfl⟩
        have hrs2 := HRS.out.later hb2
        clear hrs hcd hF3 c0 c1 q0 q1 hql hql2 hpl hb2 HRS
        have HRS := Lib.hid hrs2
        clear hrs2
        have hrs := HRS.out
        have hF3 := hF.below (hrs.below.mono hB)
        have f0 : _ = some (failV a 4) := (hF3 4 (by decide)).2
        have hfl := fail_calls (a := a) ⟨#[114, 101, 110, 97, 109, 101]⟩ S 3 W
        unfold failV at f0 hfl
        simp only [failG] at f0
        have HFL := Lib.hid hfl
        have e2 : renameD d S.data.toList S2.data.toList = (4, d) := by (rw [HE1.out]; (rw [if_neg (by rw [ka]; simp), if_pos (.inl ka)]))
        have HE2 := Lib.hid e2
        have q0 : W.cell? ⟨q, 0, none⟩ = some (.string S) := hrs.one.cell 0
        clear hfl hF3 e2 hrs
        go_wp2_with fail
        refine HFL.out.mono ?_
        rintro e w5 ⟨v, rfl, hv5, hb5⟩
        have hfin : NamesOut B0 a R A (renameD d S.data.toList S2.data.toList) ⟨#[114, 101, 110, 97, 109, 101]⟩ S w (.returned v) w5 := by
          rw [HE2.out]
          exact NamesOut.bad h (then_ HRS.out.below hb5) hv5
        have HFIN := Lib.hid hfin
        clear hfin hv5
        go_wp2_with fail
        go_ret
        exact HFIN.out
      · have hrs := HRS.out
        have hcd := h.below hrs.below
        have hF3 := hF.below (hrs.below.mono hB)
        have c0 : W.cell? ⟨p, 0, none⟩ = some (.map (some A.md)) := by rw [← HP.out]; exact Blk.cell hcd.blk 0
        have c1 : W.cell? ⟨p, 1, none⟩ = some (.map (some A.mf)) := by rw [← HP.out]; exact Blk.cell hcd.blk 1
        have q0 : W.cell? ⟨q, 0, none⟩ = some (.string S) := hrs.one.cell 0
        have q1 : W.cell? ⟨q + 1, 0, none⟩ = some (.string S2) := hrs.two.cell 0
        have hql := hrs.one.lt
        have hql2 := hrs.two.lt
        have hpl : p < W.heap.size := lt_of_cell c0
        have hlk := look_dir hcd hf S hS 0 (by rw [ka]; rfl)
        go_upto_region 4 with fail
        refine wp_region_later (by kernel_rfl) (by kernel_rfl) ?_
        repeat (go_big_quiet_step (fail))
        clear hlk
        refine wpQuiet_nil ?_
        rintro W ⟨⟨_, hb2⟩, rfl⟩
        have hrs2 := HRS.out.later hb2
        clear hrs hcd hF3 c0 c1 q0 q1 hql hql2 hpl hb2 HRS
        have HRS := Lib.hid hrs2
        clear hrs2
        have hrs := HRS.out
        have hcd := h.below hrs.below
        have hF3 := hF.below (hrs.below.mono hB)
        have c0 : W.cell? ⟨p, 0, none⟩ = some (.map (some A.md)) := by rw [← HP.out]; exact Blk.cell hcd.blk 0
        have c1 : W.cell? ⟨p, 1, none⟩ = some (.map (some A.mf)) := by rw [← HP.out]; exact Blk.cell hcd.blk 1
        have q0 : W.cell? ⟨q, 0, none⟩ = some (.string S) := hrs.one.cell 0
        have q1 : W.cell? ⟨q + 1, 0, none⟩ = some (.string S2) := hrs.two.cell 0
        have hql := hrs.one.lt
        have hql2 := hrs.two.lt
        have hpl : p < W.heap.size := lt_of_cell c0
        obtain ⟨P, hP, hlf⟩ := look_fil hcd hf S hS
        obtain ⟨P', rfl⟩ : ∃ P', P = some P' := by
          cases P with
          | none => exact absurd ka (hP.1 rfl)
          | some P' => exact ⟨P', rfl⟩
        go_upto_region 7 with fail
        refine wp_region_later (by kernel_rfl) (by kernel_rfl) ?_
        repeat (go_big_quiet_step (fail))
        clear hlf hP
        refine wpQuiet_nil ?_
        rintro W ⟨⟨_, hb2⟩, rfl⟩
        have hrs2 := HRS.out.later hb2
        clear hrs hcd hF3 c0 c1 q0 q1 hql hql2 hpl hb2 HRS
        have HRS := Lib.hid hrs2
        clear hrs2
        have hrs := HRS.out
        have hcd := h.below hrs.below
        have hF3 := hF.below (hrs.below.mono hB)
        have c0 : W.cell? ⟨p, 0, none⟩ = some (.map (some A.md)) := by rw [← HP.out]; exact Blk.cell hcd.blk 0
        have c1 : W.cell? ⟨p, 1, none⟩ = some (.map (some A.mf)) := by rw [← HP.out]; exact Blk.cell hcd.blk 1
        have q0 : W.cell? ⟨q, 0, none⟩ = some (.string S) := hrs.one.cell 0
        have q1 : W.cell? ⟨q + 1, 0, none⟩ = some (.string S2) := hrs.two.cell 0
        have hql := hrs.one.lt
        have hql2 := hrs.two.lt
        have hpl : p < W.heap.size := lt_of_cell c0
        have HPAR := Lib.hid (fun x : Later W => tparent_calls A.md A.mf S2 rp hrp x.w (hcd.dirs.1.below x.h hcd.dirs.1.lt) hf.tw hS2)
        go_upto_region 8 with fail
        refine wp_region_later (by kernel_rfl) (by kernel_rfl) ?_
        repeat (go_big_quiet_step ((go_at_call 34; exact quiet_later _ (HPAR.out _))))
        clear HPAR
        refine wpQuiet_nil ?_
        rintro W ⟨⟨_, hb2⟩, rfl⟩
        have hrs2 := HRS.out.later hb2
        clear hrs hcd hF3 c0 c1 q0 q1 hql hql2 hpl hb2 HRS
        have HRS := Lib.hid hrs2
        clear hrs2
        cases rp with
        | false =>
          have hrs := HRS.out
          have hF3 := hF.below (hrs.below.mono hB)
          have f0 : _ = some (failV a 4) := (hF3 4 (by decide)).2
          have hfl := fail_calls (a := a) ⟨#[114, 101, 110, 97, 109, 101]⟩ S 3 W
          unfold failV at f0 hfl
          simp only [failG] at f0
          have HFL := Lib.hid hfl
          have e2 : renameD d S.data.toList S2.data.toList = (4, d) := by (rw [HE1.out]; (rw [if_neg (by rw [ka]; simp), if_pos (.inr HRP.out)]))
          have HE2 := Lib.hid e2
          have q0 : W.cell? ⟨q, 0, none⟩ = some (.string S) := hrs.one.cell 0
          clear hfl hF3 e2 hrs
          go_wp2_with fail
          refine HFL.out.mono ?_
          rintro e w5 ⟨v, rfl, hv5, hb5⟩
          have hfin : NamesOut B0 a R A (renameD d S.data.toList S2.data.toList) ⟨#[114, 101, 110, 97, 109, 101]⟩ S w (.returned v) w5 := by
            rw [HE2.out]
            exact NamesOut.bad h (then_ HRS.out.below hb5) hv5
          have HFIN := Lib.hid hfin
          clear hfin hv5
          go_wp2_with fail
          go_ret
          exact HFIN.out
        | true =>
          rcases isT_range d.things S2.data.toList with kb | kb | kb
          · have hrs := HRS.out
            have hcd := h.below hrs.below
            have hF3 := hF.below (hrs.below.mono hB)
            have c0 : W.cell? ⟨p, 0, none⟩ = some (.map (some A.md)) := by rw [← HP.out]; exact Blk.cell hcd.blk 0
            have c1 : W.cell? ⟨p, 1, none⟩ = some (.map (some A.mf)) := by rw [← HP.out]; exact Blk.cell hcd.blk 1
            have q0 : W.cell? ⟨q, 0, none⟩ = some (.string S) := hrs.one.cell 0
            have q1 : W.cell? ⟨q + 1, 0, none⟩ = some (.string S2) := hrs.two.cell 0
            have hql := hrs.one.lt
            have hql2 := hrs.two.lt
            have hpl : p < W.heap.size := lt_of_cell c0
            have hlk := look_dir hcd hf S2 hS2 0 (by rw [kb]; rfl)
            go_upto_region 10 with fail
            refine wp_region_later (by kernel_rfl) (by kernel_rfl) ?_
            repeat (go_big_quiet_step (fail))
            clear hlk
            refine wpQuiet_nil ?_
            rintro W ⟨⟨_, hb2⟩, rfl⟩
            have hrs2 := HRS.out.later hb2
            clear hrs hcd hF3 c0 c1 q0 q1 hql hql2 hpl hb2 HRS
            have HRS := Lib.hid hrs2
            clear hrs2
            have hrs := HRS.out
            have hcd := h.below hrs.below
            have hF3 := hF.below (hrs.below.mono hB)
            have c0 : W.cell? ⟨p, 0, none⟩ = some (.map (some A.md)) := by rw [← HP.out]; exact Blk.cell hcd.blk 0
            have c1 : W.cell? ⟨p, 1, none⟩ = some (.map (some A.mf)) := by rw [← HP.out]; exact Blk.cell hcd.blk 1
            have q0 : W.cell? ⟨q, 0, none⟩ = some (.string S) := hrs.one.cell 0
            have q1 : W.cell? ⟨q + 1, 0, none⟩ = some (.string S2) := hrs.two.cell 0
            have hql := hrs.one.lt
            have hql2 := hrs.two.lt
            have hpl : p < W.heap.size := lt_of_cell c0
            obtain ⟨P, hP, hlf⟩ := look_fil hcd hf S2 hS2
            obtain rfl : P = none := hP.2 (by rw [kb]; omega)
            go_upto_region 11 with fail
            refine wp_region_later (by kernel_rfl) (by kernel_rfl) ?_
            repeat (go_big_quiet_step (fail))
            clear hlf hP
            refine wpQuiet_nil ?_
            rintro W ⟨⟨_, hb2⟩, rfl⟩
            have hrs2 := HRS.out.later hb2
            clear hrs hcd hF3 c0 c1 q0 q1 hql hql2 hpl hb2 HRS
            have HRS := Lib.hid hrs2
            clear hrs2
            have HE5 := Lib.hid (show renameD d S.data.toList S2.data.toList = namesD d (.rename S.data.toList S2.data.toList) by rw [HE1.out, if_neg (by rw [ka]; simp), if_neg (by rw [ka, HRP.out]; simp), if_neg (by rw [kb]; simp)])
            have hrs := HRS.out
            have hF3 := hF.below (hrs.below.mono hB)
            have hcd := h.below hrs.below
            have hqW := HQ.out
            have hRq : R q = 0 := h.inw.new (by omega)
            have hRq1 : R (q + 1) = 0 := h.inw.new (by omega)
            have hcd7 : CD B0 W (giv R q 5) A d := hcd.grant hrs.one.lt hRq (by omega) 5
            have hcd8 : CD B0 W (giv (giv R q 5) (q + 1) 5) A d := hcd7.grant hrs.two.lt (by rw [giv_ne (by omega)]; exact hRq1) (by omega) 5
            have hST : StepM W (giv (giv R q 5) (q + 1) 5) A.φ (.rename S.data.toList S2.data.toList) (.func (.func 94) #[] #[.pointer (some ⟨q, 0, none⟩), .pointer (some ⟨q + 1, 0, none⟩)]) := by
              have e : txtV S.data.toList = .string S := by unfold txtV; rw [← bytes_of rfl]
              have e2 : txtV S2.data.toList = .string S2 := by unfold txtV; rw [← bytes_of rfl]
              refine ⟨q, q + 1, rfl, ?_, ?_⟩
              · rw [Box, e]
                exact ⟨hrs.one, by rw [giv_ne (by omega)]; exact giv_self _ _ _⟩
              · rw [Box, e2]
                exact ⟨hrs.two, giv_self _ _ _⟩
            have hok : StOk d.files.length d.things (.rename S.data.toList S2.data.toList) := by (exact ⟨HR1.out, HR2.out, by rw [ka]; omega, HRP.out, by rw [kb]; omega, fun e => (by rw [ka] at e; cases e), fun e => by rw [e] at ka; rw [ka] at kb; cases kb⟩)
            have hnm := names_calls (a := a) ⟨#[114, 101, 110, 97, 109, 101]⟩ S (.rename S.data.toList S2.data.toList) _ _ W hcd8 hST hf.tw hok (by have := hf.tl; omega) (by have := hf.sl; omega) hf.aw (by have := hrs.below.size; omega) hF3
            rw [HP.out] at hnm
            have hOw : Own R (giv (giv R q 5) (q + 1) 5) w W := by
              have o1 : Own R R w W := Own.of_below hrs.below
              exact ⟨o1.os, o1.tape, o1.output, o1.size, o1.block, fun k hk => by rw [giv_ne (by omega), giv_ne (by omega)]⟩
            have HOW := Lib.hid hOw
            have HNM2 := Lib.hid hnm
            have q0 : W.cell? ⟨q, 0, none⟩ = some (.string S) := hrs.one.cell 0
            clear hnm hST hcd hcd7 hcd8 hF3 hOw hok hrs hqW
            go_wp2_with fail
            refine HNM2.out.mono ?_
            rintro e w7 hN
            obtain ⟨v, R', A', rfl, k2, k3, k4, k5, k6⟩ := hN
            have hfin : NamesOut B0 a R A (renameD d S.data.toList S2.data.toList) ⟨#[114, 101, 110, 97, 109, 101]⟩ S w (.returned v) w7 := by
              rw [HE5.out]
              exact ⟨v, R', A', rfl, k2, k3, HOW.out.trans k4, k5, k6⟩
            have HFIN := Lib.hid hfin
            clear hfin k2 k3 k4 k5
            go_wp2_with fail
            go_ret
            exact HFIN.out
          · have hrs := HRS.out
            have hcd := h.below hrs.below
            have hF3 := hF.below (hrs.below.mono hB)
            have c0 : W.cell? ⟨p, 0, none⟩ = some (.map (some A.md)) := by rw [← HP.out]; exact Blk.cell hcd.blk 0
            have c1 : W.cell? ⟨p, 1, none⟩ = some (.map (some A.mf)) := by rw [← HP.out]; exact Blk.cell hcd.blk 1
            have q0 : W.cell? ⟨q, 0, none⟩ = some (.string S) := hrs.one.cell 0
            have q1 : W.cell? ⟨q + 1, 0, none⟩ = some (.string S2) := hrs.two.cell 0
            have hql := hrs.one.lt
            have hql2 := hrs.two.lt
            have hpl : p < W.heap.size := lt_of_cell c0
            have hlk := look_dir hcd hf S2 hS2 0 (by rw [kb]; rfl)
            go_upto_region 10 with fail
            refine wp_region_later (by kernel_rfl) (by kernel_rfl) ?_
            repeat (go_big_quiet_step (fail))
            clear hlk
            refine wpQuiet_nil ?_
            rintro W ⟨⟨_, hb2⟩, rfl⟩
            have hrs2 := HRS.out.later hb2
            clear hrs hcd hF3 c0 c1 q0 q1 hql hql2 hpl hb2 HRS
            have HRS := Lib.hid hrs2
            clear hrs2
            by_cases hSS : S = S2
            · have hs2 : decide (S = S2) = true := by simpa using hSS
              have hs3 : (S.toList == S2.toList) = true := by rw [hSS]; simp
              have hs4 : (S == S2) = true := by rw [hSS, beq_toListBytes]; simp
              have hs5 : decide (S.toList = S2.toList) = true := by rw [hSS]; simp
              have HSS := Lib.hid hSS
              clear hSS
              have hrs := HRS.out
              have hcd := h.below hrs.below
              have hF3 := hF.below (hrs.below.mono hB)
              have c0 : W.cell? ⟨p, 0, none⟩ = some (.map (some A.md)) := by rw [← HP.out]; exact Blk.cell hcd.blk 0
              have c1 : W.cell? ⟨p, 1, none⟩ = some (.map (some A.mf)) := by rw [← HP.out]; exact Blk.cell hcd.blk 1
              have q0 : W.cell? ⟨q, 0, none⟩ = some (.string S) := hrs.one.cell 0
              have q1 : W.cell? ⟨q + 1, 0, none⟩ = some (.string S2) := hrs.two.cell 0
              have hql := hrs.one.lt
              have hql2 := hrs.two.lt
              have hpl : p < W.heap.size := lt_of_cell c0
              obtain ⟨P, hP, hlf⟩ := look_fil hcd hf S2 hS2
              obtain ⟨P', rfl⟩ : ∃ P', P = some P' := by
                cases P with
                | none => exact absurd kb (hP.1 rfl)
                | some P' => exact ⟨P', rfl⟩
              go_upto_region 11 with fail
              refine wp_region_later (by kernel_rfl) (by kernel_rfl) ?_
              repeat (go_big_quiet_step (fail))
              clear hlf hP
              refine wpQuiet_nil ?_
              rintro W ⟨⟨_, hb2⟩, rfl⟩
              have hrs2 := HRS.out.later hb2
              clear hrs hcd hF3 c0 c1 q0 q1 hql hql2 hpl hb2 HRS
              have HRS := Lib.hid hrs2
              clear hrs2
              have hrs := HRS.out
              have hF3 := hF.below (hrs.below.mono hB)
              have f0 : _ = some (failV a 5) := (hF3 5 (by decide)).2
              have hfl := fail_calls (a := a) ⟨#[114, 101, 110, 97, 109, 101]⟩ S 4 W
              unfold failV at f0 hfl
              simp only [failG] at f0
              have HFL := Lib.hid hfl
              have e2 : renameD d S.data.toList S2.data.toList = (5, d) := by (rw [HE1.out]; (rw [if_neg (by rw [ka]; simp), if_neg (by rw [ka, HRP.out]; simp), if_pos (.inr ⟨kb, .inr (by rw [HSS.out])⟩)]))
              have HE2 := Lib.hid e2
              have q0 : W.cell? ⟨q, 0, none⟩ = some (.string S) := hrs.one.cell 0
              clear hfl hF3 e2 hrs
              go_wp2_with fail
              refine HFL.out.mono ?_
              rintro e w5 ⟨v, rfl, hv5, hb5⟩
              have hfin : NamesOut B0 a R A (renameD d S.data.toList S2.data.toList) ⟨#[114, 101, 110, 97, 109, 101]⟩ S w (.returned v) w5 := by
                rw [HE2.out]
                exact NamesOut.bad h (then_ HRS.out.below hb5) hv5
              have HFIN := Lib.hid hfin
              clear hfin hv5
              go_wp2_with fail
              go_ret
              exact HFIN.out
            · have hs2 : decide (S = S2) = false := by simpa using hSS
              have hl2 : S.toList ≠ S2.toList := fun e => hSS (by
                rw [ByteArray.toList_eq, ByteArray.toList_eq] at e
                exact bytes_eq e)
              have hs3 : (S.toList == S2.toList) = false := by simpa using hl2
              have hs4 : (S == S2) = false := by rw [beq_toListBytes]; exact hs3
              have hs5 : decide (S.toList = S2.toList) = false := by simpa using hl2
              clear hl2
              have hrs := HRS.out
              have hcd := h.below hrs.below
              have hF3 := hF.below (hrs.below.mono hB)
              have c0 : W.cell? ⟨p, 0, none⟩ = some (.map (some A.md)) := by rw [← HP.out]; exact Blk.cell hcd.blk 0
              have c1 : W.cell? ⟨p, 1, none⟩ = some (.map (some A.mf)) := by rw [← HP.out]; exact Blk.cell hcd.blk 1
              have q0 : W.cell? ⟨q, 0, none⟩ = some (.string S) := hrs.one.cell 0
              have q1 : W.cell? ⟨q + 1, 0, none⟩ = some (.string S2) := hrs.two.cell 0
              have hql := hrs.one.lt
              have hql2 := hrs.two.lt
              have hpl : p < W.heap.size := lt_of_cell c0
              obtain ⟨P, hP, hlf⟩ := look_fil hcd hf S2 hS2
              obtain ⟨P', rfl⟩ : ∃ P', P = some P' := by
                cases P with
                | none => exact absurd kb (hP.1 rfl)
                | some P' => exact ⟨P', rfl⟩
              go_upto_region 11 with fail
              refine wp_region_later (by kernel_rfl) (by kernel_rfl) ?_
              repeat (go_big_quiet_step (fail))
              clear hlf hP
              refine wpQuiet_nil ?_
              rintro W ⟨⟨_, hb2⟩, rfl⟩
              have hrs2 := HRS.out.later hb2
              clear hrs hcd hF3 c0 c1 q0 q1 hql hql2 hpl hb2 HRS
              have HRS := Lib.hid hrs2
              clear hrs2
              have hne : S.data.toList ≠ S2.data.toList := fun e => hSS (bytes_eq e)
              have HE5 := Lib.hid (show renameD d S.data.toList S2.data.toList = namesD d (.rename S.data.toList S2.data.toList) by rw [HE1.out, if_neg (by rw [ka]; simp), if_neg (by rw [ka, HRP.out]; simp), if_neg (by rw [kb, ka]; simpa using fun e => hSS (bytes_eq (by rw [e])))])
              have hrs := HRS.out
              have hF3 := hF.below (hrs.below.mono hB)
              have hcd := h.below hrs.below
              have hqW := HQ.out
              have hRq : R q = 0 := h.inw.new (by omega)
              have hRq1 : R (q + 1) = 0 := h.inw.new (by omega)
              have hcd7 : CD B0 W (giv R q 5) A d := hcd.grant hrs.one.lt hRq (by omega) 5
              have hcd8 : CD B0 W (giv (giv R q 5) (q + 1) 5) A d := hcd7.grant hrs.two.lt (by rw [giv_ne (by omega)]; exact hRq1) (by omega) 5
              have hST : StepM W (giv (giv R q 5) (q + 1) 5) A.φ (.rename S.data.toList S2.data.toList) (.func (.func 94) #[] #[.pointer (some ⟨q, 0, none⟩), .pointer (some ⟨q + 1, 0, none⟩)]) := by
                have e : txtV S.data.toList = .string S := by unfold txtV; rw [← bytes_of rfl]
                have e2 : txtV S2.data.toList = .string S2 := by unfold txtV; rw [← bytes_of rfl]
                refine ⟨q, q + 1, rfl, ?_, ?_⟩
                · rw [Box, e]
                  exact ⟨hrs.one, by rw [giv_ne (by omega)]; exact giv_self _ _ _⟩
                · rw [Box, e2]
                  exact ⟨hrs.two, giv_self _ _ _⟩
              have hok : StOk d.files.length d.things (.rename S.data.toList S2.data.toList) := by (exact ⟨HR1.out, HR2.out, by rw [ka]; omega, HRP.out, by rw [kb]; omega, fun e => (by rw [ka] at e; cases e), hne⟩)
              have hnm := names_calls (a := a) ⟨#[114, 101, 110, 97, 109, 101]⟩ S (.rename S.data.toList S2.data.toList) _ _ W hcd8 hST hf.tw hok (by have := hf.tl; omega) (by have := hf.sl; omega) hf.aw (by have := hrs.below.size; omega) hF3
              rw [HP.out] at hnm
              have hOw : Own R (giv (giv R q 5) (q + 1) 5) w W := by
                have o1 : Own R R w W := Own.of_below hrs.below
                exact ⟨o1.os, o1.tape, o1.output, o1.size, o1.block, fun k hk => by rw [giv_ne (by omega), giv_ne (by omega)]⟩
              have HOW := Lib.hid hOw
              have HNM2 := Lib.hid hnm
              have q0 : W.cell? ⟨q, 0, none⟩ = some (.string S) := hrs.one.cell 0
              clear hnm hST hcd hcd7 hcd8 hF3 hOw hok hrs hqW
              go_wp2_with fail
              refine HNM2.out.mono ?_
              rintro e w7 hN
              obtain ⟨v, R', A', rfl, k2, k3, k4, k5, k6⟩ := hN
              have hfin : NamesOut B0 a R A (renameD d S.data.toList S2.data.toList) ⟨#[114, 101, 110, 97, 109, 101]⟩ S w (.returned v) w7 := by
                rw [HE5.out]
                exact ⟨v, R', A', rfl, k2, k3, HOW.out.trans k4, k5, k6⟩
              have HFIN := Lib.hid hfin
              clear hfin k2 k3 k4 k5
              go_wp2_with fail
              go_ret
              exact HFIN.out
          · have hrs := HRS.out
            have hcd := h.below hrs.below
            have hF3 := hF.below (hrs.below.mono hB)
            have c0 : W.cell? ⟨p, 0, none⟩ = some (.map (some A.md)) := by rw [← HP.out]; exact Blk.cell hcd.blk 0
            have c1 : W.cell? ⟨p, 1, none⟩ = some (.map (some A.mf)) := by rw [← HP.out]; exact Blk.cell hcd.blk 1
            have q0 : W.cell? ⟨q, 0, none⟩ = some (.string S) := hrs.one.cell 0
            have q1 : W.cell? ⟨q + 1, 0, none⟩ = some (.string S2) := hrs.two.cell 0
            have hql := hrs.one.lt
            have hql2 := hrs.two.lt
            have hpl : p < W.heap.size := lt_of_cell c0
            have hlk := look_dir hcd hf S2 hS2 1 (by rw [kb]; rfl)
            go_upto_region 10 with fail
            refine wp_region_later (by kernel_rfl) (by kernel_rfl) ?_
            repeat (go_big_quiet_step (fail))
            clear hlk
            refine wpQuiet_nil ?_
            rintro W ⟨⟨_, hb2⟩, rfl⟩
            have hrs2 := HRS.out.later hb2
            clear hrs hcd hF3 c0 c1 q0 q1 hql hql2 hpl hb2 HRS
            have HRS := Lib.hid hrs2
            clear hrs2
            have hrs := HRS.out
            have hF3 := hF.below (hrs.below.mono hB)
            have f0 : _ = some (failV a 5) := (hF3 5 (by decide)).2
            have hfl := fail_calls (a := a) ⟨#[114, 101, 110, 97, 109, 101]⟩ S 4 W
            unfold failV at f0 hfl
            simp only [failG] at f0
            have HFL := Lib.hid hfl
            have e2 : renameD d S.data.toList S2.data.toList = (5, d) := by (rw [HE1.out]; (rw [if_neg (by rw [ka]; simp), if_neg (by rw [ka, HRP.out]; simp), if_pos (.inl kb)]))
            have HE2 := Lib.hid e2
            have q0 : W.cell? ⟨q, 0, none⟩ = some (.string S) := hrs.one.cell 0
            clear hfl hF3 e2 hrs
            go_wp2_with fail
            refine HFL.out.mono ?_
            rintro e w5 ⟨v, rfl, hv5, hb5⟩
            have hfin : NamesOut B0 a R A (renameD d S.data.toList S2.data.toList) ⟨#[114, 101, 110, 97, 109, 101]⟩ S w (.returned v) w5 := by
              rw [HE2.out]
              exact NamesOut.bad h (then_ HRS.out.below hb5) hv5
            have HFIN := Lib.hid hfin
            clear hfin hv5
            go_wp2_with fail
            go_ret
            exact HFIN.out
      · have hrs := HRS.out
        have hcd := h.below hrs.below
        have hF3 := hF.below (hrs.below.mono hB)
        have c0 : W.cell? ⟨p, 0, none⟩ = some (.map (some A.md)) := by rw [← HP.out]; exact Blk.cell hcd.blk 0
        have c1 : W.cell? ⟨p, 1, none⟩ = some (.map (some A.mf)) := by rw [← HP.out]; exact Blk.cell hcd.blk 1
        have q0 : W.cell? ⟨q, 0, none⟩ = some (.string S) := hrs.one.cell 0
        have q1 : W.cell? ⟨q + 1, 0, none⟩ = some (.string S2) := hrs.two.cell 0
        have hql := hrs.one.lt
        have hql2 := hrs.two.lt
        have hpl : p < W.heap.size := lt_of_cell c0
        have hlk := look_dir hcd hf S hS 1 (by rw [ka]; rfl)
        go_upto_region 4 with fail
        refine wp_region_later (by kernel_rfl) (by kernel_rfl) ?_
        repeat (go_big_quiet_step (fail))
        clear hlk
        refine wpQuiet_nil ?_
        rintro W ⟨⟨_, hb2⟩, rfl⟩
        have hrs2 := HRS.out.later hb2
        clear hrs hcd hF3 c0 c1 q0 q1 hql hql2 hpl hb2 HRS
        have HRS := Lib.hid hrs2
        clear hrs2
        obtain ⟨nb, hnb⟩ : ∃ r, nameB S2.data.toList = r := ⟨_, rfl⟩
        have HNB := Lib.hid hnb
        have HNAME := Lib.hid (fun w => name_calls S2 nb hnb hS2 w)
        clear hnb
        have q1 : W.cell? ⟨q + 1, 0, none⟩ = some (.string S2) := HRS.out.two.cell 0
        go_wp2_with fail
        refine (HNAME.out W).mono ?_
        rintro _ W5 ⟨rfl, rfl⟩
        clear q1
        cases nb with
        | false =>
          have hrs := HRS.out
          have hF3 := hF.below (hrs.below.mono hB)
          have f0 : _ = some (failV a 2) := (hF3 2 (by decide)).2
          have hfl := fail_calls (a := a) ⟨#[114, 101, 110, 97, 109, 101]⟩ S 1 W
          unfold failV at f0 hfl
          simp only [failG] at f0
          have HFL := Lib.hid hfl
          have e2 : renameD d S.data.toList S2.data.toList = (2, d) := by (rw [HE1.out]; (rw [if_pos ⟨ka, HNB.out⟩]))
          have HE2 := Lib.hid e2
          have q0 : W.cell? ⟨q, 0, none⟩ = some (.string S) := hrs.one.cell 0
          clear hfl hF3 e2 hrs
          go_wp2_with fail
          refine HFL.out.mono ?_
          rintro e w5 ⟨v, rfl, hv5, hb5⟩
          have hfin : NamesOut B0 a R A (renameD d S.data.toList S2.data.toList) ⟨#[114, 101, 110, 97, 109, 101]⟩ S w (.returned v) w5 := by
            rw [HE2.out]
            exact NamesOut.bad h (then_ HRS.out.below hb5) hv5
          have HFIN := Lib.hid hfin
          clear hfin hv5
          go_wp2_with fail
          go_ret
          exact HFIN.out
        | true =>
          go_upto_region 7 with fail
          have hrs := HRS.out
          have hcd := h.below hrs.below
          have hF3 := hF.below (hrs.below.mono hB)
          have c0 : W.cell? ⟨p, 0, none⟩ = some (.map (some A.md)) := by rw [← HP.out]; exact Blk.cell hcd.blk 0
          have c1 : W.cell? ⟨p, 1, none⟩ = some (.map (some A.mf)) := by rw [← HP.out]; exact Blk.cell hcd.blk 1
          have q0 : W.cell? ⟨q, 0, none⟩ = some (.string S) := hrs.one.cell 0
          have q1 : W.cell? ⟨q + 1, 0, none⟩ = some (.string S2) := hrs.two.cell 0
          have hql := hrs.one.lt
          have hql2 := hrs.two.lt
          have hpl : p < W.heap.size := lt_of_cell c0
          refine wp_region_later (by kernel_rfl) (by kernel_rfl) ?_
          repeat (go_big_quiet_step (fail))
          refine wpQuiet_nil ?_
          rintro W ⟨⟨_, hb2⟩, rfl⟩
          have hrs2 := HRS.out.later hb2
          clear hrs hcd hF3 c0 c1 q0 q1 hql hql2 hpl hb2 HRS
          have HRS := Lib.hid hrs2
          clear hrs2
          have hrs := HRS.out
          have hcd := h.below hrs.below
          have hF3 := hF.below (hrs.below.mono hB)
          have c0 : W.cell? ⟨p, 0, none⟩ = some (.map (some A.md)) := by rw [← HP.out]; exact Blk.cell hcd.blk 0
          have c1 : W.cell? ⟨p, 1, none⟩ = some (.map (some A.mf)) := by rw [← HP.out]; exact Blk.cell hcd.blk 1
          have q0 : W.cell? ⟨q, 0, none⟩ = some (.string S) := hrs.one.cell 0
          have q1 : W.cell? ⟨q + 1, 0, none⟩ = some (.string S2) := hrs.two.cell 0
          have hql := hrs.one.lt
          have hql2 := hrs.two.lt
          have hpl : p < W.heap.size := lt_of_cell c0
          have HPAR := Lib.hid (fun x : Later W => tparent_calls A.md A.mf S2 rp hrp x.w (hcd.dirs.1.below x.h hcd.dirs.1.lt) hf.tw hS2)
          go_upto_region 8 with fail
          refine wp_region_later (by kernel_rfl) (by kernel_rfl) ?_
          repeat (go_big_quiet_step ((go_at_call 34; exact quiet_later _ (HPAR.out _))))
          clear HPAR
          refine wpQuiet_nil ?_
          rintro W ⟨⟨_, hb2⟩, rfl⟩
          have hrs2 := HRS.out.later hb2
          clear hrs hcd hF3 c0 c1 q0 q1 hql hql2 hpl hb2 HRS
          have HRS := Lib.hid hrs2
          clear hrs2
          cases rp with
          | false =>
            have hrs := HRS.out
            have hF3 := hF.below (hrs.below.mono hB)
            have f0 : _ = some (failV a 4) := (hF3 4 (by decide)).2
            have hfl := fail_calls (a := a) ⟨#[114, 101, 110, 97, 109, 101]⟩ S 3 W
            unfold failV at f0 hfl
            simp only [failG] at f0
            have HFL := Lib.hid hfl
            have e2 : renameD d S.data.toList S2.data.toList = (4, d) := by (rw [HE1.out]; (rw [if_neg (fun e => by rw [HNB.out] at e; cases e.2), if_pos (.inr HRP.out)]))
            have HE2 := Lib.hid e2
            have q0 : W.cell? ⟨q, 0, none⟩ = some (.string S) := hrs.one.cell 0
            clear hfl hF3 e2 hrs
            go_wp2_with fail
            refine HFL.out.mono ?_
            rintro e w5 ⟨v, rfl, hv5, hb5⟩
            have hfin : NamesOut B0 a R A (renameD d S.data.toList S2.data.toList) ⟨#[114, 101, 110, 97, 109, 101]⟩ S w (.returned v) w5 := by
              rw [HE2.out]
              exact NamesOut.bad h (then_ HRS.out.below hb5) hv5
            have HFIN := Lib.hid hfin
            clear hfin hv5
            go_wp2_with fail
            go_ret
            exact HFIN.out
          | true =>
            rcases isT_range d.things S2.data.toList with kb | kb | kb
            · have hrs := HRS.out
              have hcd := h.below hrs.below
              have hF3 := hF.below (hrs.below.mono hB)
              have c0 : W.cell? ⟨p, 0, none⟩ = some (.map (some A.md)) := by rw [← HP.out]; exact Blk.cell hcd.blk 0
              have c1 : W.cell? ⟨p, 1, none⟩ = some (.map (some A.mf)) := by rw [← HP.out]; exact Blk.cell hcd.blk 1
              have q0 : W.cell? ⟨q, 0, none⟩ = some (.string S) := hrs.one.cell 0
              have q1 : W.cell? ⟨q + 1, 0, none⟩ = some (.string S2) := hrs.two.cell 0
              have hql := hrs.one.lt
              have hql2 := hrs.two.lt
              have hpl : p < W.heap.size := lt_of_cell c0
              have hlk := look_dir hcd hf S2 hS2 0 (by rw [kb]; rfl)
              go_upto_region 10 with fail
              refine wp_region_later (by kernel_rfl) (by kernel_rfl) ?_
              repeat (go_big_quiet_step (fail))
              clear hlk
              refine wpQuiet_nil ?_
              rintro W ⟨⟨_, hb2⟩, rfl⟩
              have hrs2 := HRS.out.later hb2
              clear hrs hcd hF3 c0 c1 q0 q1 hql hql2 hpl hb2 HRS
              have HRS := Lib.hid hrs2
              clear hrs2
              have hrs := HRS.out
              have hcd := h.below hrs.below
              have hF3 := hF.below (hrs.below.mono hB)
              have c0 : W.cell? ⟨p, 0, none⟩ = some (.map (some A.md)) := by rw [← HP.out]; exact Blk.cell hcd.blk 0
              have c1 : W.cell? ⟨p, 1, none⟩ = some (.map (some A.mf)) := by rw [← HP.out]; exact Blk.cell hcd.blk 1
              have q0 : W.cell? ⟨q, 0, none⟩ = some (.string S) := hrs.one.cell 0
              have q1 : W.cell? ⟨q + 1, 0, none⟩ = some (.string S2) := hrs.two.cell 0
              have hql := hrs.one.lt
              have hql2 := hrs.two.lt
              have hpl : p < W.heap.size := lt_of_cell c0
              obtain ⟨P, hP, hlf⟩ := look_fil hcd hf S2 hS2
              obtain rfl : P = none := hP.2 (by rw [kb]; omega)
              go_upto_region 11 with fail
              refine wp_region_later (by kernel_rfl) (by kernel_rfl) ?_
              repeat (go_big_quiet_step (fail))
              clear hlf hP
              refine wpQuiet_nil ?_
              rintro W ⟨⟨_, hb2⟩, rfl⟩
              have hrs2 := HRS.out.later hb2
              clear hrs hcd hF3 c0 c1 q0 q1 hql hql2 hpl hb2 HRS
              have HRS := Lib.hid hrs2
              clear hrs2
              have HE5 := Lib.hid (show renameD d S.data.toList S2.data.toList = namesD d (.rename S.data.toList S2.data.toList) by rw [HE1.out, if_neg (fun e => by rw [HNB.out] at e; cases e.2), if_neg (by rw [ka, HRP.out]; simp), if_neg (by rw [kb]; simp)])
              have hrs := HRS.out
              have hF3 := hF.below (hrs.below.mono hB)
              have hcd := h.below hrs.below
              have hqW := HQ.out
              have hRq : R q = 0 := h.inw.new (by omega)
              have hRq1 : R (q + 1) = 0 := h.inw.new (by omega)
              have hcd7 : CD B0 W (giv R q 5) A d := hcd.grant hrs.one.lt hRq (by omega) 5
              have hcd8 : CD B0 W (giv (giv R q 5) (q + 1) 5) A d := hcd7.grant hrs.two.lt (by rw [giv_ne (by omega)]; exact hRq1) (by omega) 5
              have hST : StepM W (giv (giv R q 5) (q + 1) 5) A.φ (.rename S.data.toList S2.data.toList) (.func (.func 94) #[] #[.pointer (some ⟨q, 0, none⟩), .pointer (some ⟨q + 1, 0, none⟩)]) := by
                have e : txtV S.data.toList = .string S := by unfold txtV; rw [← bytes_of rfl]
                have e2 : txtV S2.data.toList = .string S2 := by unfold txtV; rw [← bytes_of rfl]
                refine ⟨q, q + 1, rfl, ?_, ?_⟩
                · rw [Box, e]
                  exact ⟨hrs.one, by rw [giv_ne (by omega)]; exact giv_self _ _ _⟩
                · rw [Box, e2]
                  exact ⟨hrs.two, giv_self _ _ _⟩
              have hok : StOk d.files.length d.things (.rename S.data.toList S2.data.toList) := by (exact ⟨HR1.out, HR2.out, by rw [ka]; omega, HRP.out, by rw [kb]; omega, fun e => ⟨HNB.out, kb⟩, fun e => by rw [e] at ka; rw [ka] at kb; cases kb⟩)
              have hnm := names_calls (a := a) ⟨#[114, 101, 110, 97, 109, 101]⟩ S (.rename S.data.toList S2.data.toList) _ _ W hcd8 hST hf.tw hok (by have := hf.tl; omega) (by have := hf.sl; omega) hf.aw (by have := hrs.below.size; omega) hF3
              rw [HP.out] at hnm
              have hOw : Own R (giv (giv R q 5) (q + 1) 5) w W := by
                have o1 : Own R R w W := Own.of_below hrs.below
                exact ⟨o1.os, o1.tape, o1.output, o1.size, o1.block, fun k hk => by rw [giv_ne (by omega), giv_ne (by omega)]⟩
              have HOW := Lib.hid hOw
              have HNM2 := Lib.hid hnm
              have q0 : W.cell? ⟨q, 0, none⟩ = some (.string S) := hrs.one.cell 0
              clear hnm hST hcd hcd7 hcd8 hF3 hOw hok hrs hqW
              go_wp2_with fail
              refine HNM2.out.mono ?_
              rintro e w7 hN
              obtain ⟨v, R', A', rfl, k2, k3, k4, k5, k6⟩ := hN
              have hfin : NamesOut B0 a R A (renameD d S.data.toList S2.data.toList) ⟨#[114, 101, 110, 97, 109, 101]⟩ S w (.returned v) w7 := by
                rw [HE5.out]
                exact ⟨v, R', A', rfl, k2, k3, HOW.out.trans k4, k5, k6⟩
              have HFIN := Lib.hid hfin
              clear hfin k2 k3 k4 k5
              go_wp2_with fail
              go_ret
              exact HFIN.out
            · have hrs := HRS.out
              have hcd := h.below hrs.below
              have hF3 := hF.below (hrs.below.mono hB)
              have c0 : W.cell? ⟨p, 0, none⟩ = some (.map (some A.md)) := by rw [← HP.out]; exact Blk.cell hcd.blk 0
              have c1 : W.cell? ⟨p, 1, none⟩ = some (.map (some A.mf)) := by rw [← HP.out]; exact Blk.cell hcd.blk 1
              have q0 : W.cell? ⟨q, 0, none⟩ = some (.string S) := hrs.one.cell 0
              have q1 : W.cell? ⟨q + 1, 0, none⟩ = some (.string S2) := hrs.two.cell 0
              have hql := hrs.one.lt
              have hql2 := hrs.two.lt
              have hpl : p < W.heap.size := lt_of_cell c0
              have hlk := look_dir hcd hf S2 hS2 0 (by rw [kb]; rfl)
              go_upto_region 10 with fail
              refine wp_region_later (by kernel_rfl) (by kernel_rfl) ?_
              repeat (go_big_quiet_step (fail))
              clear hlk
              refine wpQuiet_nil ?_
              rintro W ⟨⟨_, hb2⟩, rfl⟩
              have hrs2 := HRS.out.later hb2
              clear hrs hcd hF3 c0 c1 q0 q1 hql hql2 hpl hb2 HRS
              have HRS := Lib.hid hrs2
              clear hrs2
              have hrs := HRS.out
              have hcd := h.below hrs.below
              have hF3 := hF.below (hrs.below.mono hB)
              have c0 : W.cell? ⟨p, 0, none⟩ = some (.map (some A.md)) := by rw [← HP.out]; exact Blk.cell hcd.blk 0
              have c1 : W.cell? ⟨p, 1, none⟩ = some (.map (some A.mf)) := by rw [← HP.out]; exact Blk.cell hcd.blk 1
              have q0 : W.cell? ⟨q, 0, none⟩ = some (.string S) := hrs.one.cell 0
              have q1 : W.cell? ⟨q + 1, 0, none⟩ = some (.string S2) := hrs.two.cell 0
              have hql := hrs.one.lt
              have hql2 := hrs.two.lt
              have hpl : p < W.heap.size := lt_of_cell c0
              obtain ⟨P, hP, hlf⟩ := look_fil hcd hf S2 hS2
              obtain ⟨P', rfl⟩ : ∃ P', P = some P' := by
                cases P with
                | none => exact absurd kb (hP.1 rfl)
                | some P' => exact ⟨P', rfl⟩
              go_upto_region 11 with fail
              refine wp_region_later (by kernel_rfl) (by kernel_rfl) ?_
              repeat (go_big_quiet_step (fail))
              clear hlf hP
              refine wpQuiet_nil ?_
              rintro W ⟨⟨_, hb2⟩, rfl⟩
              have hrs2 := HRS.out.later hb2
              clear hrs hcd hF3 c0 c1 q0 q1 hql hql2 hpl hb2 HRS
              have HRS := Lib.hid hrs2
              clear hrs2
              have hrs := HRS.out
              have hF3 := hF.below (hrs.below.mono hB)
              have f0 : _ = some (failV a 5) := (hF3 5 (by decide)).2
              have hfl := fail_calls (a := a) ⟨#[114, 101, 110, 97, 109, 101]⟩ S 4 W
              unfold failV at f0 hfl
              simp only [failG] at f0
              have HFL := Lib.hid hfl
              have e2 : renameD d S.data.toList S2.data.toList = (5, d) := by (rw [HE1.out]; (rw [if_neg (fun e => by rw [HNB.out] at e; cases e.2), if_neg (by rw [ka, HRP.out]; simp), if_pos (.inr ⟨kb, .inl ka⟩)]))
              have HE2 := Lib.hid e2
              have q0 : W.cell? ⟨q, 0, none⟩ = some (.string S) := hrs.one.cell 0
              clear hfl hF3 e2 hrs
              go_wp2_with fail
              refine HFL.out.mono ?_
              rintro e w5 ⟨v, rfl, hv5, hb5⟩
              have hfin : NamesOut B0 a R A (renameD d S.data.toList S2.data.toList) ⟨#[114, 101, 110, 97, 109, 101]⟩ S w (.returned v) w5 := by
                rw [HE2.out]
                exact NamesOut.bad h (then_ HRS.out.below hb5) hv5
              have HFIN := Lib.hid hfin
              clear hfin hv5
              go_wp2_with fail
              go_ret
              exact HFIN.out
            · have hrs := HRS.out
              have hcd := h.below hrs.below
              have hF3 := hF.below (hrs.below.mono hB)
              have c0 : W.cell? ⟨p, 0, none⟩ = some (.map (some A.md)) := by rw [← HP.out]; exact Blk.cell hcd.blk 0
              have c1 : W.cell? ⟨p, 1, none⟩ = some (.map (some A.mf)) := by rw [← HP.out]; exact Blk.cell hcd.blk 1
              have q0 : W.cell? ⟨q, 0, none⟩ = some (.string S) := hrs.one.cell 0
              have q1 : W.cell? ⟨q + 1, 0, none⟩ = some (.string S2) := hrs.two.cell 0
              have hql := hrs.one.lt
              have hql2 := hrs.two.lt
              have hpl : p < W.heap.size := lt_of_cell c0
              have hlk := look_dir hcd hf S2 hS2 1 (by rw [kb]; rfl)
              go_upto_region 10 with fail
              refine wp_region_later (by kernel_rfl) (by kernel_rfl) ?_
              repeat (go_big_quiet_step (fail))
              clear hlk
              refine wpQuiet_nil ?_
              rintro W ⟨⟨_, hb2⟩, rfl⟩
              have hrs2 := HRS.out.later hb2
              clear hrs hcd hF3 c0 c1 q0 q1 hql hql2 hpl hb2 HRS
              have HRS := Lib.hid hrs2
              clear hrs2
              have hrs := HRS.out
              have hF3 := hF.below (hrs.below.mono hB)
              have f0 : _ = some (failV a 5) := (hF3 5 (by decide)).2
              have hfl := fail_calls (a := a) ⟨#[114, 101, 110, 97, 109, 101]⟩ S 4 W
              unfold failV at f0 hfl
              simp only [failG] at f0
              have HFL := Lib.hid hfl
              have e2 : renameD d S.data.toList S2.data.toList = (5, d) := by (rw [HE1.out]; (rw [if_neg (fun e => by rw [HNB.out] at e; cases e.2), if_neg (by rw [ka, HRP.out]; simp), if_pos (.inl kb)]))
              have HE2 := Lib.hid e2
              have q0 : W.cell? ⟨q, 0, none⟩ = some (.string S) := hrs.one.cell 0
              clear hfl hF3 e2 hrs
              go_wp2_with fail
              refine HFL.out.mono ?_
              rintro e w5 ⟨v, rfl, hv5, hb5⟩
              have hfin : NamesOut B0 a R A (renameD d S.data.toList S2.data.toList) ⟨#[114, 101, 110, 97, 109, 101]⟩ S w (.returned v) w5 := by
                rw [HE2.out]
                exact NamesOut.bad h (then_ HRS.out.below hb5) hv5
              have HFIN := Lib.hid hfin
              clear hfin hv5
              go_wp2_with fail
              go_ret
              exact HFIN.out
end
end Go.Proofs.YtdaidbnbfjgjeaaGreatDoor
