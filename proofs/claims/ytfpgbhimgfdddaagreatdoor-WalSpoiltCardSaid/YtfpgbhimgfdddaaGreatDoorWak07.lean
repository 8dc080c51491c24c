/- Merged (what the claim wants of): DskWalksM, DskWalksN, DskWalksO. -/
import Derived.Test.YtfpgbhimgfdddaaGreatDoorWak06
set_option linter.unusedVariables false
set_option linter.unusedSimpArgs false
/- The walks of layer 3 (disk): Create. -/
namespace Go.Proofs.YtfpgbhimgfdddaaGreatDoor
open Go.RowKit Go.Shelf Go.Maps Go.Sort
attribute [local go_sem ↓] Go.wp_at_zero Go.wp_at_succ
attribute [local go_sem] Later.cell Later.frozen

section
variable {B0 : Nat} {a : Nat → Addr} {R : Nat → Nat} {A : Adr} {d : Ds} {w w' : World}
/-- As NamesOut; files may have come behind. -/
def NamesOutF (B0 : Nat) (a : Nat → Addr) (R : Nat → Nat) (A : Adr) (r : Nat × Ds) (op s : ByteArray) (w : World) (e : Ending) (w' : World) : Prop :=
  ∃ v R' A', e = .returned v ∧ ErrV a w' op s r.1 v ∧ CD B0 w' R' A' r.2 ∧ Own R R' w w' ∧ A'.p = A.p ∧ ∃ ψ, A'.φ = A.φ ++ ψ
theorem NamesOut.weak {r : Nat × Ds} {op s : ByteArray} {e : Ending} (h : NamesOut B0 a R A r op s w e w') : NamesOutF B0 a R A r op s w e w' := by
  obtain ⟨v, R', A', h1, h2, h3, h4, h5, h6⟩ := h
  exact ⟨v, R', A', h1, h2, h3, h4, h5, [], by simpa using h6⟩
theorem stepD_files (d : Ds) (fs : List By) : stepD { d with files := fs } = ((stepD d).1, { (stepD d).2 with files := fs }) := by
  unfold stepD
  split
  · rfl
  · split <;> rfl
theorem stepD_same (d : Ds) : (stepD d).2.things = d.things ∧ (stepD d).2.safe = d.safe ∧ (stepD d).2.steps = d.steps ∧ (stepD d).2.files = d.files := by
  unfold stepD
  split
  · exact ⟨rfl, rfl, rfl, rfl⟩
  · split <;> exact ⟨rfl, rfl, rfl, rfl⟩

set_option maxRecDepth 100000 in
set_option maxHeartbeats 4000000 in
theorem create_calls (S : ByteArray) (w : World) (h : CD B0 w R A d) (hf : Fit d) (hnu : Nums d) (hS : S.size ≤ 1073741824) (hB : B0 ≤ w.heap.size) (hF : Fails B0 a w) :
    Calls Tryz.prog 19 #[.pointer (some ⟨A.p, 0, none⟩), .string S] w (NamesOutF B0 a R A (createD d S.data.toList) ⟨#[99, 114, 101, 97, 116, 101]⟩ S w) := by
  obtain ⟨rn, hrn⟩ : ∃ r, pathB S.data.toList = r := ⟨_, rfl⟩
  have HNM := Lib.hid (fun w => path_calls S rn hrn hS w)
  have HRN := Lib.hid hrn
  obtain ⟨p, hp⟩ : ∃ p, A.p = p := ⟨_, rfl⟩
  have HP := Lib.hid hp
  rw [hp]
  have H0 := Lib.hid h
  clear hrn hp
  go_enter Tryz.func19, Tryz.ntmps19
  go_upto_region 1 with fail
  obtain ⟨w1, hw1⟩ : ∃ x, w.alloc (.cells #[.string S] 9) = x := ⟨_, rfl⟩
  have hb1 : Below w.heap.size w w1 := by rw [← hw1]; exact (Below.refl _ _).alloc (Nat.le_refl _) _
  have hq : Blk w1 w.heap.size 9 #[.string S] := by rw [← hw1]; exact Blk.new _ _ _
  rw [hw1]
  obtain ⟨q, hqq⟩ : ∃ q, w.heap.size = q := ⟨_, rfl⟩
  have hR0 : R q = 0 := h.inw.new (by omega)
  rw [hqq] at hq hB ⊢
  have HQ := Lib.hid hqq
  have q0 : _ = some (Value.string S) := hq.cell 0
  have hql := hq.lt
  clear hw1 hqq
  refine wp_region_later_tail 4 (by kernel_rfl) (by kernel_rfl) ?_
  simp only [List.take_succ_cons, List.take_zero, List.drop_succ_cons, List.drop_zero]
  repeat (go_big_quiet_step ((go_at_call 62; exact quiet_later _ (HNM.out _))))
  refine wpQuiet_nil ?_
  rintro w2 ⟨⟨_, hb2⟩, rfl⟩
  have hB2 := then_ hb1 hb2
  have hcd2 := h.below hB2
  have hF2 : Fails B0 a w2 := hF.below (hB2.mono (by have := HQ.out; omega))
  have hoff : w2.cell? ⟨p, 6, none⟩ = some (.bool d.off) := by rw [← HP.out]; exact Blk.cell hcd2.blk 6
  obtain ⟨k, hk⟩ : ∃ k, readyR d.off rn = k := ⟨_, rfl⟩
  have HK := Lib.hid hk
  have hq2 := hq.below hb2 hq.lt
  have hready := ready_calls (B0 := B0) (a := a) p d.off rn ⟨#[99, 114, 101, 97, 116, 101]⟩ S k hk w2 hoff hF2
  have HRD := Lib.hid hready
  clear hk hready hq q0 hql hb1 hb2
  go_wp2_with fail
  refine HRD.out.mono ?_
  rintro _ w3 ⟨v, rfl, hv3, hb3⟩
  have hB3 := then_ hB2 hb3
  have hcd3 := h.below hB3
  have hF3 := hF2.below (hb3.mono (by have := hB2.size; have := HQ.out; omega))
  have hq3 := hq2.below hb3 hq2.lt
  clear hcd2 hF2 hoff hq2 hb3 HRD hB2
  cases k with
  | succ k =>
    have hfin : NamesOutF B0 a R A (createD d S.data.toList) ⟨#[99, 114, 101, 97, 116, 101]⟩ S w (.returned v) w3 := by
      have e1 : createD d S.data.toList = (k + 1, d) := by
        have hk := HK.out
        unfold readyR at hk
        unfold createD
        rw [← hk, HRN.out]
        cases ho : d.off with
        | true => simp
        | false =>
          rw [ho] at hk
          cases rn with
          | true => simp at hk
          | false => simp
      rw [e1]
      exact (NamesOut.bad h hB3 hv3).weak
    obtain ⟨q4, rfl, _⟩ := hv3
    have HFIN := Lib.hid hfin
    clear hfin hcd3 hF3 hq3 hB3
    go_wp2_with fail
    go_ret
    exact HFIN.out
  | zero =>
    obtain rfl : v = .nilIface := hv3
    obtain ⟨ho, hn⟩ : d.off = false ∧ rn = true := by
      have hk := HK.out
      unfold readyR at hk
      cases ho : d.off with
      | true => rw [ho] at hk; simp at hk
      | false =>
        rw [ho] at hk
        cases rn with
        | true => exact ⟨rfl, rfl⟩
        | false => simp at hk
    have e1 : createD d S.data.toList = if parentB d.things S.data.toList = false then (4, d) else if isT d.things S.data.toList ≠ 0 then (5, d) else if (stepD d).1 ≠ 0 then stepD d else (0, { (namesD d (.create S.data.toList d.files.length)).2 with files := d.files ++ [⟨[], [], []⟩] }) := by
      unfold createD
      rw [ho, HRN.out, hn]
      simp
    have HE1 := Lib.hid e1
    obtain ⟨rp, hrp⟩ : ∃ r, parentB d.things S.data.toList = r := ⟨_, rfl⟩
    have hpar : ∀ x : Later w3, Calls Tryz.prog 63 #[.agg #[.map (some A.md), .map (some A.mf)], .string S] x.w fun e w' => e = .returned (.bool rp) ∧ Below x.w.heap.size x.w w' := fun x => tparent_calls A.md A.mf S rp hrp x.w (hcd3.dirs.1.below x.h hcd3.dirs.1.lt) hf.tw hS
    have HPAR := Lib.hid hpar
    have HRP := Lib.hid hrp
    have c0 : w3.cell? ⟨p, 0, none⟩ = some (.map (some A.md)) := by rw [← HP.out]; exact Blk.cell hcd3.blk 0
    have c1 : w3.cell? ⟨p, 1, none⟩ = some (.map (some A.mf)) := by rw [← HP.out]; exact Blk.cell hcd3.blk 1
    have q0 : _ = some (Value.string S) := hq3.cell 0
    have hql := hq3.lt
    have hpl : p < w3.heap.size := lt_of_cell c0
    have HNB := Lib.hid (HRN.out.trans hn)
    clear ho hn e1 HK hpar hrp
    go_upto_region 4 with fail
    refine wp_region_later (by kernel_rfl) (by kernel_rfl) ?_
    repeat (go_big_quiet_step ((go_at_call 63; exact quiet_later _ (HPAR.out _))))
    refine wpQuiet_nil ?_
    rintro w4 ⟨⟨_, hb4⟩, rfl⟩
    have hB4 := then_ hB3 hb4
    have hcd4 := h.below hB4
    have hq4 := hq3.below hb4 hq3.lt
    have hF4 := hF3.below (hb4.mono (by have := hB3.size; have := HQ.out; omega))
    clear hcd3 hF3 hq3 c0 c1 q0 hql hpl hb4 hB3 HPAR
    cases rp with
    | false =>
      have f4 : _ = some (failV a 4) := (hF4 4 (by decide)).2
      have hfl := fail_calls (a := a) ⟨#[99, 114, 101, 97, 116, 101]⟩ S 3 w4
      unfold failV at f4 hfl
      simp only [failG] at f4
      have HFL := Lib.hid hfl
      have e2 : createD d S.data.toList = (4, d) := by rw [HE1.out, if_pos HRP.out]
      have HE2 := Lib.hid e2
      have q0' : _ = some (Value.string S) := hq4.cell 0
      clear hfl hF4 e2
      go_wp2_with fail
      refine HFL.out.mono ?_
      rintro e w5 ⟨v, rfl, hv5, hb5⟩
      have hfin : NamesOutF B0 a R A (createD d S.data.toList) ⟨#[99, 114, 101, 97, 116, 101]⟩ S w (.returned v) w5 := by
        rw [HE2.out]
        exact (NamesOut.bad h (then_ hB4 hb5) hv5).weak
      have HFIN := Lib.hid hfin
      clear hfin hv5
      go_wp2_with fail
      go_ret
      exact HFIN.out
      
    | true =>
      obtain ⟨P, hP, hlf⟩ := look_fil hcd4 hf S hS
      have c0 : w4.cell? ⟨p, 0, none⟩ = some (.map (some A.md)) := by rw [← HP.out]; exact Blk.cell hcd4.blk 0
      have c1 : w4.cell? ⟨p, 1, none⟩ = some (.map (some A.mf)) := by rw [← HP.out]; exact Blk.cell hcd4.blk 1
      have q0 : _ = some (Value.string S) := hq4.cell 0
      have hql := hq4.lt
      have hpl : p < w4.heap.size := lt_of_cell c0
      have HPP := Lib.hid hP
      clear hP
      go_upto_region 6 with fail
      rcases isT_range d.things S.data.toList with h0 | h0 | h0
      · obtain rfl : P = none := HPP.out.2 (by rw [h0]; omega)
        have hlk := look_dir hcd4 hf S hS 0 (by rw [h0]; rfl)
        refine wp_region_later (by kernel_rfl) (by kernel_rfl) ?_
        repeat (go_big_quiet_step (fail))
        refine wpQuiet_nil ?_
        rintro w5 ⟨⟨_, hb5⟩, rfl⟩
        have hB5 := then_ hB4 hb5
        have hq5 := hq4.below hb5 hq4.lt
        have hF5 := hF4.below (hb5.mono (by have := hB4.size; have := HQ.out; omega))
        clear hlk hlf q0 c0 c1 hpl hql hcd4 hq4 hF4 hb5 hB4
        go_upto_region 9 with fail
        obtain ⟨w6, hw6⟩ : ∃ x, (w5.alloc (.cells #[.string ⟨#[]⟩, .string ⟨#[]⟩, .slice none 0 0] 143)).alloc (.cells #[.pointer (some ⟨w5.heap.size, 0, none⟩)] 140) = x := ⟨_, rfl⟩
        have hb6 : Below w5.heap.size w5 w6 := by rw [← hw6]; exact ((Below.refl _ _).alloc (Nat.le_refl _) _).alloc (by simp) _
        have hgf : Blk w6 w5.heap.size 143 #[.string ⟨#[]⟩, .string ⟨#[]⟩, .slice none 0 0] := by rw [← hw6]; exact (Blk.new _ _ _).alloc _
        have hvf : Blk w6 (w5.heap.size + 1) 140 #[.pointer (some ⟨w5.heap.size, 0, none⟩)] := by rw [← hw6]; exact Blk.newAt (by simp)
        rw [hw6]
        obtain ⟨gf, hgg⟩ : ∃ q, w5.heap.size = q := ⟨_, rfl⟩
        have hql5 := hq5.lt
        have hB6 := then_ hB5 hb6
        have hq6 := hq5.below hb6 hq5.lt
        have hF6 := hF5.below (hb6.mono (by have := hB5.size; have := HQ.out; omega))
        have hsz5 := hB5.size
        rw [hgg] at hgf hvf hql5 hsz5 ⊢
        have hgW : w.heap.size ≤ gf := hsz5
        have hqW := HQ.out
        have hRg : R gf = 0 := h.inw.new hgW
        have hRv : R (gf + 1) = 0 := h.inw.new (by omega)
        have hcd6 := h.below hB6
        have hcd7 : CD B0 w6 (giv R q 5) A d := hcd6.grant hq6.lt hR0 hB 5
        have hcd8 : CD B0 w6 (giv (giv R q 5) (gf + 1) 5) A d := hcd7.grant hvf.lt (by rw [giv_ne (by omega)]; exact hRv) (by omega) 5
        have hcd9 := hcd8.new_file hnu hgf (by rw [giv_ne (by omega), giv_ne (by omega)]; exact hRg) (by omega)
        have hφl := h.bytes.1
        have hST : StepM w6 (giv (giv (giv R q 5) (gf + 1) 5) gf (10 + 2 * d.files.length)) (A.φ ++ [gf]) (.create S.data.toList d.files.length) (.func (.func 66) #[] #[.pointer (some ⟨gf + 1, 0, none⟩), .pointer (some ⟨q, 0, none⟩)]) := by
          have e : txtV S.data.toList = .string S := by unfold txtV; rw [← bytes_of rfl]
          have e2 : fptr (A.φ ++ [gf]) d.files.length = .pointer (some ⟨gf, 0, none⟩) := by unfold fptr; rw [List.getElem?_append_right (by omega), hφl]; simp
          refine ⟨q, gf + 1, rfl, ?_, ?_⟩
          · rw [Box, e]
            exact ⟨hq6, by rw [giv_ne (by omega), giv_ne (by omega)]; exact giv_self _ _ _⟩
          · rw [Box, e2]
            exact ⟨hvf, by rw [giv_ne (by omega)]; exact giv_self _ _ _⟩
        have htw : TW (d.files.length + 1) d.things := ⟨hf.tw.nodup, hf.tw.dirs, hf.tw.paths, hf.tw.par, fun x hx hd => by have := hf.tw.ats x hx hd; omega, hf.tw.inj⟩
        have hok : StOk (d.files.length + 1) d.things (.create S.data.toList d.files.length) := ⟨HNB.out, HRP.out, h0, by omega, fun x hx hd => by have := hf.tw.ats x hx hd; omega⟩
        have hnm := names_calls (a := a) ⟨#[99, 114, 101, 97, 116, 101]⟩ S (.create S.data.toList d.files.length) _ _ w6 hcd9 hST (by simpa using htw) (by simpa using hok) (by have := hf.tl; simpa using (by omega : d.things.length ≤ 1073741824)) (by have := hf.sl; simpa using (by omega : d.steps.length ≤ 1073741824)) hf.aw (by have := hB6.size; omega) hF6
        have hOw : Own R (giv (giv (giv R q 5) (gf + 1) 5) gf (10 + 2 * d.files.length)) w w6 := by
          have o1 : Own R R w w6 := Own.of_below hB6
          exact ⟨o1.os, o1.tape, o1.output, o1.size, o1.block, fun k hk => by rw [giv_ne (by omega), giv_ne (by omega), giv_ne (by omega)]⟩
        have e2 : createD d S.data.toList = if (stepD d).1 ≠ 0 then stepD d else (0, { (namesD d (.create S.data.toList d.files.length)).2 with files := d.files ++ [⟨[], [], []⟩] }) := by rw [HE1.out, if_neg (by rw [HRP.out]; simp), if_neg (by rw [h0]; simp)]
        have HE2 := Lib.hid e2
        have HOW := Lib.hid hOw
        have HNM2 := Lib.hid hnm
        have HPL := Lib.hid hφl
        have q0' : _ = some (Value.string S) := hq6.cell 0
        simp only [HP.out] at HNM2
        clear hnm hST hcd6 hcd7 hcd8 hcd9 hF6 e2 hOw htw hok hw6 hgg h0 hgf hvf hb6 hB6 hq6 hF5 hφl
        go_wp2_with fail
        refine HNM2.out.mono ?_
        rintro e w7 hN
        obtain ⟨v, R', A', rfl, k2, k3, k4, k5, k6⟩ := hN
        have hfin : NamesOutF B0 a R A (createD d S.data.toList) ⟨#[99, 114, 101, 97, 116, 101]⟩ S w (.returned v) w7 := by
          have hss := stepD_same d
          have hsf := stepD_files d (d.files ++ [⟨[], [], []⟩])
          rw [HE2.out]
          by_cases hst : (stepD d).1 = 0
          · rw [if_neg (by simpa using hst)]
            have e3 : namesD { d with files := d.files ++ [⟨[], [], []⟩] } (.create S.data.toList d.files.length) = (0, { (namesD d (.create S.data.toList d.files.length)).2 with files := d.files ++ [⟨[], [], []⟩] }) := by
              unfold namesD
              rw [hsf]
              simp only [hst]
              simp
            rw [e3] at k2 k3
            exact ⟨v, R', A', rfl, k2, k3, HOW.out.trans k4, Eq.trans k5 HP.out.symm, ⟨[gf], k6⟩⟩
          · rw [if_pos hst]
            have e3 : namesD { d with files := d.files ++ [⟨[], [], []⟩] } (.create S.data.toList d.files.length) = ((stepD d).1, { (stepD d).2 with files := d.files ++ [⟨[], [], []⟩] }) := by
              unfold namesD
              rw [hsf, if_pos hst]
            rw [e3] at k2 k3
            obtain ⟨p', md', mf', sd', sf', sv', φ'⟩ := A'
            simp only at k5 k6
            subst k6
            have k7 := CD.drop_file (A := ⟨p', md', mf', sd', sf', sv', A.φ⟩) (d := (stepD d).2) k3 (by rw [HPL.out]) (by
              rw [← hss.2.2.2]
              exact ⟨by rw [hss.1, hss.2.2.2]; exact hnu.things, by rw [hss.2.1, hss.2.2.2]; exact hnu.safe, by rw [hss.2.2.1, hss.2.2.2]; exact hnu.steps⟩)
            have e4 : ({ (stepD d).2 with files := d.files } : Ds) = (stepD d).2 := by rw [← hss.2.2.2]
            rw [e4] at k7
            exact ⟨v, R', _, rfl, k2, k7, HOW.out.trans k4, Eq.trans k5 HP.out.symm, ⟨[], by simp⟩⟩
        have HFIN := Lib.hid hfin
        clear hfin k2 k3 k4 k5
        go_wp2_with fail
        go_ret
        exact HFIN.out
      · have hlk := look_dir hcd4 hf S hS 0 (by rw [h0]; rfl)
        obtain ⟨P', rfl⟩ : ∃ P', P = some P' := by
          cases P with
          | none => exact absurd h0 (HPP.out.1 rfl)
          | some P' => exact ⟨P', rfl⟩
        refine wp_region_later (by kernel_rfl) (by kernel_rfl) ?_
        repeat (go_big_quiet_step (fail))
        refine wpQuiet_nil ?_
        rintro w5 ⟨⟨_, hb5⟩, rfl⟩
        have hB5 := then_ hB4 hb5
        have hq5 := hq4.below hb5 hq4.lt
        have hF5 := hF4.below (hb5.mono (by have := hB4.size; have := HQ.out; omega))
        have f5 : _ = some (failV a 5) := (hF5 5 (by decide)).2
        have hfl := fail_calls (a := a) ⟨#[99, 114, 101, 97, 116, 101]⟩ S 4 w5
        unfold failV at f5 hfl
        simp only [failG] at f5
        have HFL := Lib.hid hfl
        have e2 : createD d S.data.toList = (5, d) := by rw [HE1.out, if_neg (by rw [HRP.out]; simp), if_pos (by rw [h0]; simp)]
        have HE2 := Lib.hid e2
        have q0' : _ = some (Value.string S) := hq5.cell 0
        clear hfl hF5 e2 hlk hlf q0 c0 c1 h0
        go_wp2_with fail
        refine HFL.out.mono ?_
        rintro e w6 ⟨v, rfl, hv6, hb6⟩
        have hfin : NamesOutF B0 a R A (createD d S.data.toList) ⟨#[99, 114, 101, 97, 116, 101]⟩ S w (.returned v) w6 := by
          rw [HE2.out]
          exact (NamesOut.bad h (then_ hB5 hb6) hv6).weak
        have HFIN := Lib.hid hfin
        clear hfin hv6
        go_wp2_with fail
        go_ret
        exact HFIN.out
        
      · have hlk := look_dir hcd4 hf S hS 1 (by rw [h0]; rfl)
        refine wp_region_later (by kernel_rfl) (by kernel_rfl) ?_
        repeat (go_big_quiet_step (fail))
        refine wpQuiet_nil ?_
        rintro w5 ⟨⟨_, hb5⟩, rfl⟩
        have hB5 := then_ hB4 hb5
        have hq5 := hq4.below hb5 hq4.lt
        have hF5 := hF4.below (hb5.mono (by have := hB4.size; have := HQ.out; omega))
        have f5 : _ = some (failV a 5) := (hF5 5 (by decide)).2
        have hfl := fail_calls (a := a) ⟨#[99, 114, 101, 97, 116, 101]⟩ S 4 w5
        unfold failV at f5 hfl
        simp only [failG] at f5
        have HFL := Lib.hid hfl
        have e2 : createD d S.data.toList = (5, d) := by rw [HE1.out, if_neg (by rw [HRP.out]; simp), if_pos (by rw [h0]; simp)]
        have HE2 := Lib.hid e2
        have q0' : _ = some (Value.string S) := hq5.cell 0
        clear hfl hF5 e2 hlk hlf q0 c0 c1 h0
        go_wp2_with fail
        refine HFL.out.mono ?_
        rintro e w6 ⟨v, rfl, hv6, hb6⟩
        have hfin : NamesOutF B0 a R A (createD d S.data.toList) ⟨#[99, 114, 101, 97, 116, 101]⟩ S w (.returned v) w6 := by
          rw [HE2.out]
          exact (NamesOut.bad h (then_ hB5 hb6) hv6).weak
        have HFIN := Lib.hid hfin
        clear hfin hv6
        go_wp2_with fail
        go_ret
        exact HFIN.out
        
end
end Go.Proofs.YtfpgbhimgfdddaaGreatDoor

/- The walks of layer 3 (disk): file, All, Read. -/
namespace Go.Proofs.YtfpgbhimgfdddaaGreatDoor
open Go.RowKit Go.Shelf Go.Maps Go.Sort
attribute [local go_sem ↓] Go.wp_at_zero Go.wp_at_succ
attribute [local go_sem] Later.cell Later.frozen

section
variable {B0 : Nat} {a : Nat → Addr} {R : Nat → Nat} {A : Adr} {d : Ds} {w w' : World}
theorem findT_cases {l : List Th} (h : (l.map Th.path).Nodup) (s : Txt) : (isT l s = 0 ∧ findT l s = none) ∨ (isT l s = 1 ∧ ∃ x ∈ l, findT l s = some x ∧ x.dir = false ∧ x.path = s) ∨ (isT l s = 2 ∧ ∃ x ∈ l, findT l s = some x ∧ x.dir = true ∧ x.path = s) := by
  unfold isT
  cases hf : findT l s with
  | none => exact .inl ⟨rfl, rfl⟩
  | some x =>
    have h1 := List.find?_some hf
    have h2 := List.mem_of_find?_eq_some hf
    cases hd : x.dir with
    | false => exact .inr (.inl ⟨by simp [hd], x, h2, rfl, hd, by simpa using h1⟩)
    | true => exact .inr (.inr ⟨by simp [hd], x, h2, rfl, hd, by simpa using h1⟩)
def FileOut (a : Nat → Addr) (A : Adr) (r : Except Nat Nat) (op s : ByteArray) (w : World) (e : Ending) (w' : World) : Prop :=
  Below w.heap.size w w' ∧ match r with
    | .error k => k ≠ 0 ∧ ∃ v, e = .returned (.tuple #[.pointer none, v]) ∧ ErrV a w' op s k v
    | .ok i => e = .returned (.tuple #[fptr A.φ i, .nilIface])
set_option maxRecDepth 100000 in
set_option maxHeartbeats 4000000 in
theorem file_calls (op S : ByteArray) (w : World) (h : CD B0 w R A d) (hf : Fit d) (hS : S.size ≤ 1073741824) (hB : B0 ≤ w.heap.size) (hF : Fails B0 a w) :
    Calls Tryz.prog 67 #[.pointer (some ⟨A.p, 0, none⟩), .string op, .string S] w (FileOut a A (fileD d S.data.toList) op S w) := by
  obtain ⟨rn, hrn⟩ : ∃ r, pathB S.data.toList = r := ⟨_, rfl⟩
  have HNM := Lib.hid (path_calls S rn hrn hS w)
  have HRN := Lib.hid hrn
  obtain ⟨p, hp⟩ : ∃ p, A.p = p := ⟨_, rfl⟩
  have HP := Lib.hid hp
  rw [hp]
  obtain ⟨r, hr⟩ : ∃ r, fileD d S.data.toList = r := ⟨_, rfl⟩
  have HR := Lib.hid hr
  rw [hr]
  clear hrn hp hr
  go_enter Tryz.func67, Tryz.ntmps67
  go_wp2_with fail
  refine HNM.out.mono ?_
  rintro _ w2 ⟨rfl, hB2⟩
  have hcd2 := h.below hB2
  have hF2 : Fails B0 a w2 := hF.below (hB2.mono hB)
  have hoff : w2.cell? ⟨p, 6, none⟩ = some (.bool d.off) := by rw [← HP.out]; exact Blk.cell hcd2.blk 6
  obtain ⟨k, hk⟩ : ∃ k, readyR d.off rn = k := ⟨_, rfl⟩
  have HK := Lib.hid hk
  have HRD := Lib.hid (ready_calls (B0 := B0) (a := a) p d.off rn op S k hk w2 hoff hF2)
  clear hk
  go_wp2_with fail
  refine HRD.out.mono ?_
  rintro _ w3 ⟨v, rfl, hv3, hb3⟩
  have hB3 := then_ hB2 hb3
  have hcd3 := h.below hB3
  have hF3 := hF2.below (hb3.mono (by have := hB2.size; omega))
  clear hcd2 hF2 hoff hb3 HRD hB2
  cases k with
  | succ k =>
    have hr : r = .error (k + 1) := by
      have hk := HK.out
      unfold readyR at hk
      rw [← HR.out]
      unfold fileD
      rw [HRN.out, ← hk]
      cases ho : d.off with
      | true => simp
      | false =>
        rw [ho] at hk
        cases rn with
        | true => simp at hk
        | false => simp
    subst hr
    have hfin : FileOut a A (.error (k + 1)) op S w (.returned (.tuple #[.pointer none, v])) w3 := ⟨hB3, by omega, v, rfl, hv3⟩
    obtain ⟨q4, rfl, _⟩ := hv3
    have HFIN := Lib.hid hfin
    clear hfin hcd3 hF3 hB3
    go_wp2_with fail
    go_ret2
    exact HFIN.out
  | zero =>
    obtain rfl : v = .nilIface := hv3
    obtain ⟨ho, hn⟩ : d.off = false ∧ rn = true := by
      have hk := HK.out
      unfold readyR at hk
      cases ho : d.off with
      | true => rw [ho] at hk; simp at hk
      | false =>
        rw [ho] at hk
        cases rn with
        | true => exact ⟨rfl, rfl⟩
        | false => simp at hk
    have hr : r = fileT d.things S.data.toList := by
      rw [← HR.out]
      unfold fileD
      rw [ho, HRN.out, hn]
      simp
    have c0 : w3.cell? ⟨p, 0, none⟩ = some (.map (some A.md)) := by rw [← HP.out]; exact Blk.cell hcd3.blk 0
    have c1 : w3.cell? ⟨p, 1, none⟩ = some (.map (some A.mf)) := by rw [← HP.out]; exact Blk.cell hcd3.blk 1
    have f3 : _ = some (failV a 3) := (hF3 3 (by decide)).2
    have f4 : _ = some (failV a 4) := (hF3 4 (by decide)).2
    have hfl := fun k => fail_calls (a := a) op S k w3
    unfold failV at f3 f4 hfl
    simp only [failG] at f3 f4
    have HFL := Lib.hid hfl
    have hlz := hcd3.files.1.look Tryz.underlying9 Tryz.underlying120 (zeroFl w3) (s := S) (by unfold maxLen; omega)
    have hone := filF_one (φ := A.φ) hf.tw (x := S.data.toList)
    clear ho hn HK hfl
    rcases findT_cases hf.tw.nodup S.data.toList with ⟨h0, hx⟩ | ⟨h0, x, hxm, hx, hxd, hxp⟩ | ⟨h0, x, hxm, hx, hxd, hxp⟩
    · obtain rfl : r = .error 4 := by rw [hr]; unfold fileT; rw [hx]
      have hlk := look_dir hcd3 hf S hS 0 (by rw [h0]; rfl) ⟨w3, Below.refl _ _⟩
      have hn : filF A.φ d.things S.data.toList = none := by
        cases hv : filF A.φ d.things S.data.toList with
        | none => rfl
        | some v => have := hone.1 (by rw [hv]; rfl); omega
      rw [hn] at hlz
      simp only [Option.getD_none] at hlz
      clear hone hn h0 hx hr
      dsimp only at hlk
      go_wp2_with fail
      refine (HFL.out 3).mono ?_
      rintro e w5 ⟨v, rfl, hv5, hb5⟩
      have hfin : FileOut a A (.error 4) op S w (.returned (.tuple #[.pointer none, v])) w5 := ⟨then_ hB3 hb5, by omega, v, rfl, hv5⟩
      have HFIN := Lib.hid hfin
      clear hfin hv5
      go_wp2_with fail
      go_ret2
      exact HFIN.out
    · obtain rfl : r = .ok x.at_ := by rw [hr]; unfold fileT; rw [hx]; simp [hxd]
      have hlk := look_dir hcd3 hf S hS 0 (by rw [h0]; rfl) ⟨w3, Below.refl _ _⟩
      have hn : filF A.φ d.things S.data.toList = some (fptr A.φ x.at_) := (filF_iff hf.tw.nodup).2 ⟨x, hxm, hxd, hxp, rfl⟩
      rw [hn] at hlz
      simp only [Option.getD_some] at hlz
      have hfin : FileOut a A (.ok x.at_) op S w (.returned (.tuple #[fptr A.φ x.at_, .nilIface])) w3 := ⟨hB3, rfl⟩
      have HFIN := Lib.hid hfin
      unfold fptr at hlz HFIN
      clear hone hn h0 hx hfin hr
      dsimp only at hlk
      go_wp2_with fail
      go_ret2
      exact HFIN.out
    · obtain rfl : r = .error 3 := by rw [hr]; unfold fileT; rw [hx]; simp [hxd]
      have hlk := look_dir hcd3 hf S hS 1 (by rw [h0]; rfl) ⟨w3, Below.refl _ _⟩
      have hn : filF A.φ d.things S.data.toList = none := by
        cases hv : filF A.φ d.things S.data.toList with
        | none => rfl
        | some v => have := hone.1 (by rw [hv]; rfl); omega
      rw [hn] at hlz
      simp only [Option.getD_none] at hlz
      clear hone hn h0 hx hr
      dsimp only at hlk
      go_wp2_with fail
      refine (HFL.out 2).mono ?_
      rintro e w5 ⟨v, rfl, hv5, hb5⟩
      have hfin : FileOut a A (.error 3) op S w (.returned (.tuple #[.pointer none, v])) w5 := ⟨then_ hB3 hb5, by omega, v, rfl, hv5⟩
      have HFIN := Lib.hid hfin
      clear hfin hv5
      go_wp2_with fail
      go_ret2
      exact HFIN.out
end
end Go.Proofs.YtfpgbhimgfdddaaGreatDoor

/- The walks of layer 3 (disk): All, Sync, SyncNames. -/
namespace Go.Proofs.YtfpgbhimgfdddaaGreatDoor
open Go.RowKit Go.Shelf Go.Maps Go.Sort
attribute [local go_sem ↓] Go.wp_at_zero Go.wp_at_succ
attribute [local go_sem] Later.cell Later.frozen

section
variable {B0 : Nat} {a : Nat → Addr} {R : Nat → Nat} {A : Adr} {d : Ds} {w w' : World}
theorem fileD_ok {s : Txt} {i : Nat} (hf : Fit d) (h : fileD d s = .ok i) : i < d.files.length ∧ d.off = false ∧ ∃ x ∈ d.things, x.dir = false ∧ x.path = s ∧ x.at_ = i := by
  unfold fileD at h
  cases ho : d.off with
  | true => rw [ho] at h; simp at h
  | false =>
    rw [ho] at h
    simp only [Bool.false_eq_true, if_false] at h
    split at h
    · cases h
    · unfold fileT at h
      rcases findT_cases hf.tw.nodup s with ⟨h0, hx⟩ | ⟨h0, x, hxm, hx, hxd, hxp⟩ | ⟨h0, x, hxm, hx, hxd, hxp⟩
      · rw [hx] at h; cases h
      · rw [hx] at h
        simp only [hxd, Bool.false_eq_true, if_false] at h
        injection h with h
        exact ⟨h ▸ hf.tw.ats x hxm hxd, rfl, x, hxm, hxd, hxp, h⟩
      · rw [hx] at h
        simp only [hxd, if_true] at h
        cases h
theorem file_at (h : CD B0 w R A d) {i : Nat} (hi : i < d.files.length) : FileM w R i (A.φ[i]?.getD 0) (fAt d i) := by
  have hl := h.bytes.1
  have h1 : A.φ[i]? = some A.φ[i] := List.getElem?_eq_getElem (by omega)
  have h2 : d.files[i]? = some d.files[i] := List.getElem?_eq_getElem hi
  unfold fAt
  rw [h1, h2]
  exact h.bytes.2 i _ _ h1 h2

set_option maxHeartbeats 2000000 in
theorem all3_calls (S : ByteArray) (w : World) (h : CD B0 w R A d) (hf : Fit d) (hS : S.size ≤ 1073741824) (hB : B0 ≤ w.heap.size) (hF : Fails B0 a w) :
    Calls Tryz.prog 59 #[.pointer (some ⟨A.p, 0, none⟩), .string S] w fun e w' => ∃ v, e = .returned (.tuple #[txtV (allD d S.data.toList).1, v]) ∧ ErrV a w' ⟨#[114, 101, 97, 100]⟩ S (allD d S.data.toList).2 v ∧ Below w.heap.size w w' := by
  have HF := Lib.hid (file_calls (a := a) ⟨#[114, 101, 97, 100]⟩ S w h hf hS hB hF)
  obtain ⟨r, hr⟩ : ∃ r, fileD d S.data.toList = r := ⟨_, rfl⟩
  have HR := Lib.hid hr
  rw [hr] at HF
  obtain ⟨p, hp⟩ : ∃ p, A.p = p := ⟨_, rfl⟩
  rw [hp] at HF ⊢
  clear hr hp
  go_enter Tryz.func59, Tryz.ntmps59
  go_wp2_with fail
  refine HF.out.mono ?_
  rintro _ w1 ⟨hb1, hm⟩
  cases r with
  | error k =>
    obtain ⟨hk, v, rfl, hv⟩ := hm
    have e1 : allD d S.data.toList = ([], k) := by unfold allD; rw [HR.out]
    have HE := Lib.hid e1
    have HV := Lib.hid hv
    cases k with
    | zero => exact absurd rfl hk
    | succ k =>
      obtain ⟨q, rfl, _⟩ := hv
      clear e1
      go_wp2_with fail
      go_ret2
      exact ⟨_, by rw [HE.out]; rfl, by rw [HE.out]; exact HV.out, hb1⟩
  | ok i =>
    have hm' : _ = Ending.returned (.tuple #[fptr A.φ i, .nilIface]) := hm
    subst hm'
    obtain ⟨hi, _⟩ := fileD_ok hf HR.out
    obtain ⟨v, hblk, _⟩ := file_at (h.below hb1) hi
    have e1 : allD d S.data.toList = ((fAt d i).now, 0) := by unfold allD; rw [HR.out]
    have HE := Lib.hid e1
    obtain ⟨T, hT⟩ : ∃ T : ByteArray, (⟨(fAt d i).now.toArray⟩ : ByteArray) = T := ⟨_, rfl⟩
    have HT := Lib.hid hT
    have c0 : w1.cell? ⟨A.φ[i]?.getD 0, 0, none⟩ = some (.string T) := by rw [← hT]; exact hblk.cell 0
    unfold fptr
    obtain ⟨b, hb⟩ : ∃ b, A.φ[i]?.getD 0 = b := ⟨_, rfl⟩
    rw [hb] at c0 ⊢
    clear hblk e1 hT hb hi
    go_wp2_with fail
    go_ret2
    exact ⟨_, by rw [HE.out]; unfold txtV; rw [HT.out]; rfl, by rw [HE.out]; rfl, hb1⟩

set_option maxRecDepth 100000 in
set_option maxHeartbeats 4000000 in
theorem sync_calls (S : ByteArray) (w : World) (h : CD B0 w R A d) (hf : Fit d) (hS : S.size ≤ 1073741824) (hB : B0 ≤ w.heap.size) (hF : Fails B0 a w) :
    Calls Tryz.prog 91 #[.pointer (some ⟨A.p, 0, none⟩), .string S] w (NamesOut B0 a R A (syncD d S.data.toList) ⟨#[115, 121, 110, 99]⟩ S w) := by
  have HF := Lib.hid (file_calls (a := a) ⟨#[115, 121, 110, 99]⟩ S w h hf hS hB hF)
  obtain ⟨r, hr⟩ : ∃ r, fileD d S.data.toList = r := ⟨_, rfl⟩
  have HR := Lib.hid hr
  rw [hr] at HF
  obtain ⟨p, hp⟩ : ∃ p, A.p = p := ⟨_, rfl⟩
  have HP := Lib.hid hp
  rw [hp] at HF ⊢
  clear hr hp
  go_enter Tryz.func91, Tryz.ntmps91
  go_wp2_with fail
  refine HF.out.mono ?_
  rintro _ w1 ⟨hb1, hm⟩
  cases r with
  | error k =>
    obtain ⟨hk, v, rfl, hv⟩ := hm
    have hfin : NamesOut B0 a R A (syncD d S.data.toList) ⟨#[115, 121, 110, 99]⟩ S w (.returned v) w1 := by
      have e1 : syncD d S.data.toList = (k, d) := by unfold syncD; rw [HR.out]
      rw [e1]
      exact NamesOut.bad h hb1 hv
    have HFIN := Lib.hid hfin
    cases k with
    | zero => exact absurd rfl hk
    | succ k =>
      obtain ⟨q, rfl, _⟩ := hv
      clear hfin
      go_wp2_with fail
      go_ret
      exact HFIN.out
  | ok i =>
    have hm' : _ = Ending.returned (.tuple #[fptr A.φ i, .nilIface]) := hm
    subst hm'
    obtain ⟨hi, _⟩ := fileD_ok hf HR.out
    have hcd1 := h.below hb1
    have HST := Lib.hid (step_calls (a := a) ⟨#[115, 121, 110, 99]⟩ S w1 hcd1 hf.aw (by have := hb1.size; omega) (hF.below (hb1.mono hB)))
    rw [HP.out] at HST
    have hss := stepD_same d
    have HSS := Lib.hid hss
    obtain ⟨k, d1, hk⟩ : ∃ k d1, stepD d = (k, d1) := ⟨_, _, rfl⟩
    have HK := Lib.hid hk
    unfold fptr
    obtain ⟨b, hb⟩ : ∃ b, A.φ[i]?.getD 0 = b := ⟨_, rfl⟩
    have HBB := Lib.hid hb
    rw [hb]
    clear hss hk hb hcd1
    go_wp2_with fail
    refine HST.out.mono ?_
    rintro _ w2 ⟨v, rfl, hv2, hcd2, hO2, _⟩
    rw [HK.out] at hv2 hcd2
    cases k with
    | succ k =>
      have hfin : NamesOut B0 a R A (syncD d S.data.toList) ⟨#[115, 121, 110, 99]⟩ S w (.returned v) w2 := by
        have e1 : syncD d S.data.toList = (k + 1, d1) := by unfold syncD; rw [HR.out, HK.out]; simp
        rw [e1]
        exact ⟨v, R, A, rfl, hv2, hcd2, (Own.of_below hb1).trans hO2, rfl, rfl⟩
      have HFIN := Lib.hid hfin
      obtain ⟨q, rfl, _⟩ := hv2
      clear hfin hcd2 hO2
      go_wp2_with fail
      go_ret
      exact HFIN.out
    | zero =>
      obtain rfl : v = .nilIface := hv2
      have hss := HSS.out
      rw [HK.out] at hss
      have hi1 : i < d1.files.length := by rw [hss.2.2.2]; exact hi
      obtain ⟨u, hblk, hrb, hrow⟩ := file_at hcd2 hi1
      have efa : fAt d1 i = fAt d i := by unfold fAt; rw [hss.2.2.2]
      rw [efa] at hblk
      rw [HBB.out] at hblk hrb
      obtain ⟨T, hT⟩ : ∃ T : ByteArray, (⟨(fAt d i).now.toArray⟩ : ByteArray) = T := ⟨_, rfl⟩
      have hTv : txtV (fAt d i).now = .string T := by unfold txtV; rw [hT]
      have hblk2 : Blk ((w2.setCell ⟨b, 1, none⟩ (.string T)).setCell ⟨b, 2, none⟩ (.slice none 0 0)) b 143 #[txtV (fAt d i).now, txtV (fAt d i).now, .slice none 0 0] := by
        have := (hblk.set_ 1 (.string T)).set_ 2 (.slice none 0 0)
        rw [hTv] at this ⊢
        exact this
      have hcd3 : CD B0 ((w2.setCell ⟨b, 1, none⟩ (.string T)).setCell ⟨b, 2, none⟩ (.slice none 0 0)) R A (setF d1 i ⟨(fAt d i).now, (fAt d i).now, []⟩) := by
        refine CD.file_only hcd2 hi1 (fun k h0 h1 h2 => ⟨?_, rfl⟩) (fun k hk => by have := hcd2.inw k hk; simpa [World.setCell] using this) hcd2.low ?_
        · have hne : k ≠ b := by rintro rfl; exact h1 hrb
          exact (Below.heap_setCell _ _ _ k hne).trans (Below.heap_setCell _ _ _ k hne)
        · rw [HBB.out]
          exact ⟨.slice none 0 0, hblk2, hrb, RowIs.nil⟩
      have hO3 : Own R R w ((w2.setCell ⟨b, 1, none⟩ (.string T)).setCell ⟨b, 2, none⟩ (.slice none 0 0)) := ((Own.of_below hb1).trans hO2).trans ((Own.of_set _ (by omega)).trans (Own.of_set _ (by omega)))
      have hfin : NamesOut B0 a R A (syncD d S.data.toList) ⟨#[115, 121, 110, 99]⟩ S w (.returned .nilIface) ((w2.setCell ⟨b, 1, none⟩ (.string T)).setCell ⟨b, 2, none⟩ (.slice none 0 0)) := by
        have e1 : syncD d S.data.toList = (0, setF d1 i ⟨(fAt d i).now, (fAt d i).now, []⟩) := by unfold syncD; rw [HR.out, HK.out]; simp
        rw [e1]
        exact ⟨.nilIface, R, A, rfl, rfl, hcd3, hO3, rfl, rfl⟩
      have HFIN := Lib.hid hfin
      rw [hTv] at hblk
      have c0 : _ = some (Value.string T) := hblk.cell 0
      obtain ⟨X, hX⟩ : ∃ X : ByteArray, (⟨(fAt d i).safe.toArray⟩ : ByteArray) = X := ⟨_, rfl⟩
      have c1 : w2.cell? ⟨b, 1, none⟩ = some (.string X) := by rw [← hX]; exact hblk.cell 1
      obtain ⟨A4, c4, hu, _⟩ : ∃ A4 c4, u = .slice A4 (fAt d1 i).steps.length c4 ∧ True := by
        rcases hrow.1.2 with ⟨rfl, h0⟩ | ⟨g, cap, cur, rfl, _⟩
        · exact ⟨none, 0, by rw [h0], trivial⟩
        · exact ⟨_, cap, rfl, trivial⟩
      rw [hu] at hblk
      have c2 : _ = some (Value.slice A4 (fAt d1 i).steps.length c4) := hblk.cell 2
      have g1 := hblk.frozen 1
      have g2 := hblk.frozen 2
      obtain ⟨m, hm⟩ : ∃ m, (fAt d1 i).steps.length = m := ⟨_, rfl⟩
      rw [hm] at c2
      clear hfin hcd2 hO2 hcd3 hO3 hblk2 hblk hrow hu efa hT hTv hX hm hss
      go_wp2_with fail
      go_ret
      exact HFIN.out
end
end Go.Proofs.YtfpgbhimgfdddaaGreatDoor
