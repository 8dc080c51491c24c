/- Merged: RdkWalksE, RdkWalksF, RdkWalksG. -/
import Derived.Test.YtdaidbnbfjgjeaaGreatDoorDsa18
set_option linter.unusedVariables false
set_option linter.unusedSimpArgs false
/-! ## RdkWalksE -/
/- The walks of layer 3 (disk), the document's: Mkdir, Remove, Rename. -/
namespace Go.Proofs.YtdaidbnbfjgjeaaGreatDoor
open Go.RowKit Go.Shelf Go.Maps Go.Sort
attribute [local go_sem ↓] Go.wp_at_zero Go.wp_at_succ
attribute [local go_sem] Later.cell Later.frozen

theorem txtV_self (S : ByteArray) : txtV S.data.toList = .string S := by unfold txtV; rw [← bytes_of rfl]
section
variable {B0 : Nat} {R : Nat → Nat} {A : RAdr} {d : Ds}
theorem RdOut.stay {w : World} (h : RD B0 w R A d) (j : Nat) : RdOut B0 R A (j, d) w (.returned (.int .i64 (j : Int))) w := ⟨R, A, rfl, h, Own.refl _ _, rfl⟩
theorem things_short (hf : Fit d) : ∀ x ∈ d.things, x.path.length ≤ 1073741824 := fun x hx => paths_short hf.tw x.path (List.mem_map.2 ⟨x, hx, rfl⟩)

set_option maxRecDepth 100000 in
set_option maxHeartbeats 2000000 in
theorem rmkdir_calls (S : ByteArray) (w : World) (h : RD B0 w R A d) (hf : Fit d) (hS : S.size ≤ 1073741824) (hB : B0 ≤ w.heap.size) :
    Calls Tryz.prog 49 #[.pointer (some ⟨A.q, 0, none⟩), .string S] w (RdOut B0 R A (mkdirD d S.data.toList) w) := by
  obtain ⟨nb, hnb⟩ : ∃ b, nameB S.data.toList = b := ⟨_, rfl⟩
  obtain ⟨k, hk⟩ : ∃ k, isT d.things S.data.toList = k := ⟨_, rfl⟩
  obtain ⟨o, ho⟩ : ∃ o, d.off = o := ⟨_, rfl⟩
  have HNB := Lib.hid (fun w => rname_calls S nb hnb hS w)
  have HIS := Lib.hid (ris_calls S k hk w h (Nat.le_trans hf.tl (by decide)))
  have c5 : w.cell? ⟨A.q, 5, none⟩ = some (.bool o) := by rw [← ho]; exact Blk.cell h.blk 5
  obtain ⟨NMD, hNMD⟩ : ∃ r, namesD d (.mkdir S.data.toList) = r := ⟨_, rfl⟩
  have hnm := rnames_calls (.mkdir S.data.toList) 1 0 S ⟨#[]⟩ (by simp [encS, txtV_self]) (fun X n c w hX => rapply_mkdir hX S hS (by have := Elems.len hX; have := hf.tl; omega) (things_short hf)) w h hf.aw (Nat.le_trans hf.sl (by decide)) hB
  rw [hNMD] at hnm
  have HNM := Lib.hid hnm
  have hE : mkdirD d S.data.toList = if o = true then (1, d) else if nb = false then (2, d) else if k ≠ 0 then (5, d) else NMD := by unfold mkdirD; rw [ho, hnb, hk, hNMD]
  have HSTAY := Lib.hid (fun j => RdOut.stay (w := w) h j)
  obtain ⟨q, hq⟩ : ∃ q, A.q = q := ⟨_, rfl⟩
  rw [hq] at HIS HNM c5 ⊢
  have HE := Lib.hid hE
  clear hE hnb hk ho hNMD hnm hq
  go_enter Tryz.func49, Tryz.ntmps49
  go_wp2_with fail
  refine (HNB.out _).mono ?_
  rintro _ w1 ⟨rfl, rfl⟩
  cases o with
  | true =>
    have hE := HE.out
    rw [if_pos rfl] at hE
    have HEZ := Lib.hid hE
    clear hE
    go_wp2_with fail
    go_ret
    rw [HEZ.out]
    exact HSTAY.out _
  | false =>
    cases nb with
    | false =>
      have hE := HE.out
      rw [if_neg (by decide), if_pos rfl] at hE
      have HEZ := Lib.hid hE
      clear hE
      go_wp2_with fail
      go_ret
      rw [HEZ.out]
      exact HSTAY.out _
    | true =>
      go_wp2_with fail
      refine HIS.out.mono ?_
      rintro _ w1 ⟨rfl, rfl⟩
      by_cases hz : k = 0
      · subst hz
        have hE := HE.out
        rw [if_neg (by decide), if_neg (by decide), if_neg (by decide)] at hE
        have HEZ := Lib.hid hE
        clear hE
        go_wp2_with fail
        refine HNM.out.mono ?_
        rintro e w2 ⟨R', A', rfl, k1, k2, k3⟩
        have hfin : RdOut B0 R A NMD w (.returned (.int .i64 (NMD.1 : Int))) w2 := ⟨R', A', rfl, k1, k2, k3⟩
        have HFIN := Lib.hid hfin
        clear hfin k1 k2
        go_wp2_with fail
        go_ret
        rw [HEZ.out]
        exact HFIN.out
      · have hE := HE.out
        rw [if_neg (by decide), if_neg (by decide), if_pos hz] at hE
        have d1 : ((k : Int) == 0) = false := by rw [beq_eq_false_iff_ne]; omega
        have HEZ := Lib.hid hE
        clear hE
        go_wp2_with fail
        go_ret
        rw [HEZ.out]
        exact HSTAY.out _
set_option maxRecDepth 100000 in
set_option maxHeartbeats 2000000 in
theorem rremove_calls (S : ByteArray) (w : World) (h : RD B0 w R A d) (hf : Fit d) (hS : S.size ≤ 1073741824) (hB : B0 ≤ w.heap.size) :
    Calls Tryz.prog 60 #[.pointer (some ⟨A.q, 0, none⟩), .string S] w (RdOut B0 R A (removeD d S.data.toList) w) := by
  obtain ⟨nb, hnb⟩ : ∃ b, pathB S.data.toList = b := ⟨_, rfl⟩
  obtain ⟨k, hk⟩ : ∃ k, isT d.things S.data.toList = k := ⟨_, rfl⟩
  obtain ⟨o, ho⟩ : ∃ o, d.off = o := ⟨_, rfl⟩
  have HNB := Lib.hid (fun w => rpath_calls S nb hnb w hS)
  have HIS := Lib.hid (ris_calls S k hk w h (Nat.le_trans hf.tl (by decide)))
  have c5 : w.cell? ⟨A.q, 5, none⟩ = some (.bool o) := by rw [← ho]; exact Blk.cell h.blk 5
  obtain ⟨NMD, hNMD⟩ : ∃ r, namesD d (.remove S.data.toList) = r := ⟨_, rfl⟩
  have hnm := rnames_calls (.remove S.data.toList) 4 0 S ⟨#[]⟩ (by simp [encS, txtV_self]) (fun X n c w hX => rapply_remove hX S hS (by have := Elems.len hX; have := hf.tl; omega) (things_short hf)) w h hf.aw (Nat.le_trans hf.sl (by decide)) hB
  rw [hNMD] at hnm
  have HNM := Lib.hid hnm
  have hE : removeD d S.data.toList = if o = true then (1, d) else if nb = false then (2, d) else if k = 0 then (4, d) else NMD := by unfold removeD; rw [ho, hnb, hk, hNMD]
  have HSTAY := Lib.hid (fun j => RdOut.stay (w := w) h j)
  obtain ⟨q, hq⟩ : ∃ q, A.q = q := ⟨_, rfl⟩
  rw [hq] at HIS HNM c5 ⊢
  have HE := Lib.hid hE
  clear hE hnb hk ho hNMD hnm hq
  go_enter Tryz.func60, Tryz.ntmps60
  go_wp2_with fail
  refine (HNB.out _).mono ?_
  rintro _ w1 ⟨rfl, rfl⟩
  cases o with
  | true =>
    have hE := HE.out
    rw [if_pos rfl] at hE
    have HEZ := Lib.hid hE
    clear hE
    go_wp2_with fail
    go_ret
    rw [HEZ.out]
    exact HSTAY.out _
  | false =>
    cases nb with
    | false =>
      have hE := HE.out
      rw [if_neg (by decide), if_pos rfl] at hE
      have HEZ := Lib.hid hE
      clear hE
      go_wp2_with fail
      go_ret
      rw [HEZ.out]
      exact HSTAY.out _
    | true =>
      go_wp2_with fail
      refine HIS.out.mono ?_
      rintro _ w1 ⟨rfl, rfl⟩
      by_cases hz : k = 0
      · subst hz
        have hE := HE.out
        rw [if_neg (by decide), if_neg (by decide), if_pos rfl] at hE
        have HEZ := Lib.hid hE
        clear hE
        go_wp2_with fail
        go_ret
        rw [HEZ.out]
        exact HSTAY.out _
      · have hE := HE.out
        rw [if_neg (by decide), if_neg (by decide), if_neg hz] at hE
        have d1 : ((k : Int) == 0) = false := by rw [beq_eq_false_iff_ne]; omega
        have HEZ := Lib.hid hE
        clear hE
        go_wp2_with fail
        refine HNM.out.mono ?_
        rintro e w2 ⟨R', A', rfl, k1, k2, k3⟩
        have hfin : RdOut B0 R A NMD w (.returned (.int .i64 (NMD.1 : Int))) w2 := ⟨R', A', rfl, k1, k2, k3⟩
        have HFIN := Lib.hid hfin
        clear hfin k1 k2
        go_wp2_with fail
        go_ret
        rw [HEZ.out]
        exact HFIN.out
set_option maxRecDepth 100000 in
set_option maxHeartbeats 4000000 in
theorem rrename_calls (S S2 : ByteArray) (w : World) (h : RD B0 w R A d) (hf : Fit d) (hS : S.size ≤ 1073741824) (hS2 : S2.size ≤ 1073741824) (hB : B0 ≤ w.heap.size) :
    Calls Tryz.prog 58 #[.pointer (some ⟨A.q, 0, none⟩), .string S, .string S2] w (RdOut B0 R A (renameD d S.data.toList S2.data.toList) w) := by
  obtain ⟨r1, hr1⟩ : ∃ b, pathB S.data.toList = b := ⟨_, rfl⟩
  obtain ⟨r2, hr2⟩ : ∃ b, pathB S2.data.toList = b := ⟨_, rfl⟩
  obtain ⟨pl, hpl⟩ : ∃ b, nameB S2.data.toList = b := ⟨_, rfl⟩
  obtain ⟨th, hth⟩ : ∃ b, parentB d.things S2.data.toList = b := ⟨_, rfl⟩
  have hm3 := isT_range d.things S.data.toList
  have hk3 := isT_range d.things S2.data.toList
  obtain ⟨m, hm⟩ : ∃ k, isT d.things S.data.toList = k := ⟨_, rfl⟩
  obtain ⟨k, hk⟩ : ∃ k, isT d.things S2.data.toList = k := ⟨_, rfl⟩
  obtain ⟨o, ho⟩ : ∃ o, d.off = o := ⟨_, rfl⟩
  have htl : d.things.length ≤ 1073741824 := Nat.le_trans hf.tl (by decide)
  have HP1 := Lib.hid (fun w => rpath_calls S r1 hr1 w hS)
  have HP2 := Lib.hid (fun w => rpath_calls S2 r2 hr2 w hS2)
  have HNB := Lib.hid (fun w => rname_calls S2 pl hpl hS2 w)
  have HPA := Lib.hid (rparent_calls S2 th hth w h htl hS2)
  have HIS := Lib.hid (ris_calls S m hm w h htl)
  have HI2 := Lib.hid (ris_calls S2 k hk w h htl)
  have c5 : w.cell? ⟨A.q, 5, none⟩ = some (.bool o) := by rw [← ho]; exact Blk.cell h.blk 5
  obtain ⟨NMD, hNMD⟩ : ∃ r, namesD d (.rename S.data.toList S2.data.toList) = r := ⟨_, rfl⟩
  have hnm := rnames_calls (.rename S.data.toList S2.data.toList) 3 0 S S2 (by simp [encS, txtV_self]) (fun X n c w hX => rapply_rename hX S S2 hS hS2 (by have := Elems.len hX; omega) (things_short hf)) w h hf.aw (Nat.le_trans hf.sl (by decide)) hB
  rw [hNMD] at hnm
  have HNM := Lib.hid hnm
  have hE : renameD d S.data.toList S2.data.toList = if o = true then (1, d) else if r1 = false ∨ r2 = false then (2, d) else if m = 2 ∧ pl = false then (2, d) else if m = 0 ∨ th = false then (4, d) else
      if k = 2 ∨ (k = 1 ∧ (m = 2 ∨ S.data.toList = S2.data.toList)) then (5, d) else NMD := by unfold renameD; rw [ho, hr1, hr2, hm, hk, hpl, hth, hNMD]
  have HSTAY := Lib.hid (fun j => RdOut.stay (w := w) h j)
  obtain ⟨q, hq⟩ : ∃ q, A.q = q := ⟨_, rfl⟩
  rw [hq] at HIS HI2 HPA HNM c5 ⊢
  rw [hm] at hm3
  rw [hk] at hk3
  have HE := Lib.hid hE
  have HK3 := Lib.hid hk3
  have HM3 := Lib.hid hm3
  clear hE hr1 hr2 hpl hth hm hk ho hNMD hnm hq hk3 hm3
  go_enter Tryz.func58, Tryz.ntmps58
  go_wp2_with fail
  refine (HP1.out _).mono ?_
  rintro _ w1 ⟨rfl, rfl⟩
  go_wp2_with fail
  refine (HP2.out _).mono ?_
  rintro _ w1 ⟨rfl, rfl⟩
  cases o with
  | true =>
    have hE := HE.out
    rw [if_pos rfl] at hE
    have HEZ := Lib.hid hE
    clear hE
    go_wp2_with fail
    go_ret
    rw [HEZ.out]
    exact HSTAY.out _
  | false =>
    cases r1 with
    | false =>
      have hE := HE.out
      rw [if_neg (by decide), if_pos (.inl rfl)] at hE
      have HEZ := Lib.hid hE
      clear hE
      go_wp2_with fail
      go_ret
      rw [HEZ.out]
      exact HSTAY.out _
    | true =>
      cases r2 with
      | false =>
        have hE := HE.out
        rw [if_neg (by decide), if_pos (.inr rfl)] at hE
        have HEZ := Lib.hid hE
        clear hE
        go_wp2_with fail
        go_ret
        rw [HEZ.out]
        exact HSTAY.out _
      | true =>
        have hE := HE.out
        rw [if_neg (by decide), if_neg (by decide)] at hE
        have HE1 := Lib.hid hE
        clear hE
        go_wp2_with fail
        refine HIS.out.mono ?_
        rintro _ w1 ⟨rfl, rfl⟩
        go_wp2_with fail
        refine (HNB.out _).mono ?_
        rintro _ w1 ⟨rfl, rfl⟩
        by_cases hm2 : m = 2 ∧ pl = false
        · obtain ⟨rfl, rfl⟩ := hm2
          have hE := HE1.out
          rw [if_pos ⟨rfl, rfl⟩] at hE
          have HEZ := Lib.hid hE
          clear hE
          go_wp2_with fail
          go_ret
          rw [HEZ.out]
          exact HSTAY.out _
        · have hE := HE1.out
          rw [if_neg hm2] at hE
          have HE2 := Lib.hid hE
          clear hE
          go_upto_region 9 with fail
          go_cut [37] (fun s37 wz => s37 = .bool false ∧ wz = w)
          case first =>
            have HM2 := Lib.hid hm2
            rcases HM3.out with rfl | rfl | rfl
            · clear hm2
              go_wp2_with fail
              go_meet
              exact ⟨rfl, rfl⟩
            · clear hm2
              go_wp2_with fail
              go_meet
              exact ⟨rfl, rfl⟩
            · have hp : pl = true := by
                cases pl with
                | true => rfl
                | false => exact absurd ⟨rfl, rfl⟩ hm2
              subst hp
              clear hm2
              go_wp2_with fail
              go_meet
              exact ⟨rfl, rfl⟩
          case rest =>
            obtain ⟨rfl, hwc⟩ := hcut
            subst wc
            go_wp2_with fail
            refine HPA.out.mono ?_
            rintro _ w1 ⟨rfl, rfl⟩
            by_cases hm4 : m = 0 ∨ th = false
            · have hE := HE2.out
              rw [if_pos hm4] at hE
              rcases hm4 with rfl | rfl
              · have HEZ := Lib.hid hE
                clear hE
                go_wp2_with fail
                go_ret
                rw [HEZ.out]
                exact HSTAY.out _
              · rcases HM3.out with rfl | rfl | rfl
                · have HEZ := Lib.hid hE
                  clear hE
                  go_wp2_with fail
                  go_ret
                  rw [HEZ.out]
                  exact HSTAY.out _
                · have HEZ := Lib.hid hE
                  clear hE
                  go_wp2_with fail
                  go_ret
                  rw [HEZ.out]
                  exact HSTAY.out _
                · have HEZ := Lib.hid hE
                  clear hE
                  go_wp2_with fail
                  go_ret
                  rw [HEZ.out]
                  exact HSTAY.out _
            · have hE := HE2.out
              rw [if_neg hm4] at hE
              have HE3 := Lib.hid hE
              clear hE
              have hth : th = true := by
                cases th with
                | true => rfl
                | false => exact absurd (.inr rfl) hm4
              subst hth
              have hm0 : m ≠ 0 := fun e => hm4 (.inl e)
              have d0 : ((m : Int) == 0) = false := by rw [beq_eq_false_iff_ne]; omega
              clear hm4 hm0
              go_wp2_with fail
              refine HI2.out.mono ?_
              rintro _ w1 ⟨rfl, rfl⟩
              rcases HK3.out with rfl | rfl | rfl
              · have hE := HE3.out
                rw [if_neg (by simp)] at hE
                have HEZ := Lib.hid hE
                clear hE
                go_wp2_with fail
                refine HNM.out.mono ?_
                rintro e w2 ⟨R', A', rfl, k1, k2, k3⟩
                have hfin : RdOut B0 R A NMD w (.returned (.int .i64 (NMD.1 : Int))) w2 := ⟨R', A', rfl, k1, k2, k3⟩
                have HFIN := Lib.hid hfin
                clear hfin k1 k2
                go_wp2_with fail
                go_ret
                rw [HEZ.out]
                exact HFIN.out
              · by_cases hSS : S = S2
                · subst hSS
                  have hE := HE3.out
                  rw [if_pos (.inr ⟨rfl, .inr rfl⟩)] at hE
                  rcases HM3.out with rfl | rfl | rfl
                  · simp at d0
                  · have HEZ := Lib.hid hE
                    clear hE
                    go_wp2_with fail
                    go_ret
                    rw [HEZ.out]
                    exact HSTAY.out _
                  · have HEZ := Lib.hid hE
                    clear hE
                    go_wp2_with fail
                    go_ret
                    rw [HEZ.out]
                    exact HSTAY.out _
                · obtain ⟨e1, e2, e3, e4⟩ := ne_facts hSS
                  have hne : S.data.toList ≠ S2.data.toList := fun e => hSS (bytes_eq e)
                  rcases HM3.out with rfl | rfl | rfl
                  · simp at d0
                  · have hE := HE3.out
                    rw [if_neg (by simp [hne])] at hE
                    clear hne hSS
                    have HEZ := Lib.hid hE
                    clear hE
                    go_wp2_with fail
                    refine HNM.out.mono ?_
                    rintro e w2 ⟨R', A', rfl, k1, k2, k3⟩
                    have hfin : RdOut B0 R A NMD w (.returned (.int .i64 (NMD.1 : Int))) w2 := ⟨R', A', rfl, k1, k2, k3⟩
                    have HFIN := Lib.hid hfin
                    clear hfin k1 k2
                    go_wp2_with fail
                    go_ret
                    rw [HEZ.out]
                    exact HFIN.out
                  · have hE := HE3.out
                    rw [if_pos (.inr ⟨rfl, .inl rfl⟩)] at hE
                    clear hne hSS
                    have HEZ := Lib.hid hE
                    clear hE
                    go_wp2_with fail
                    go_ret
                    rw [HEZ.out]
                    exact HSTAY.out _
              · have hE := HE3.out
                rw [if_pos (.inl rfl)] at hE
                have HEZ := Lib.hid hE
                clear hE
                go_wp2_with fail
                go_ret
                rw [HEZ.out]
                exact HSTAY.out _
end
end Go.Proofs.YtdaidbnbfjgjeaaGreatDoor

/-! ## RdkWalksF -/
/- The walks of layer 3 (disk), the document's: SyncNames, All, Read, Cut, Sync, Append. -/
namespace Go.Proofs.YtdaidbnbfjgjeaaGreatDoor
open Go.RowKit Go.Shelf Go.Maps Go.Sort
attribute [local go_sem ↓] Go.wp_at_zero Go.wp_at_succ
attribute [local go_sem] Later.cell Later.frozen

section
variable {B0 : Nat} {R : Nat → Nat} {A : RAdr} {d : Ds}
theorem info_rchange : (Tryz.prog.info? 149).map (fun i => (i.zero, i.size, i.bytes)) = some (some (.agg #[.string ⟨#[]⟩, .bool false, .int .i64 0]), 3, 32) := by kernel_rfl
theorem info_bytes : (Tryz.prog.info? 119).map (fun i => (i.zero, i.size, i.bytes)) = some (some (.agg #[.string ⟨#[]⟩, .string ⟨#[]⟩, .slice none 0 0]), 3, 56) := by kernel_rfl

set_option maxRecDepth 100000 in
set_option maxHeartbeats 2000000 in
theorem rsyncnames_calls (w : World) (h : RD B0 w R A d) (hf : Fit d) :
    Calls Tryz.prog 56 #[.pointer (some ⟨A.q, 0, none⟩)] w (RdOut B0 R A (syncNamesD d) w) := by
  obtain ⟨o, ho⟩ : ∃ o, d.off = o := ⟨_, rfl⟩
  have c5 : w.cell? ⟨A.q, 5, none⟩ = some (.bool o) := by rw [← ho]; exact Blk.cell h.blk 5
  have HST := Lib.hid (rstep_calls w h hf.aw)
  obtain ⟨k, dd, hk⟩ : ∃ k d1, stepD d = (k, d1) := ⟨_, _, rfl⟩
  have hss := stepD_same d
  rw [hk] at hss
  have hE : syncNamesD d = if o = true then (1, d) else if k ≠ 0 then (k, dd) else (0, { dd with safe := d.things, steps := [] }) := by unfold syncNamesD; rw [ho, hk]
  have HE := Lib.hid hE
  have HK := Lib.hid hk
  have HSS := Lib.hid hss
  have HSTAY := Lib.hid (fun j => RdOut.stay (w := w) h j)
  obtain ⟨q, hq⟩ : ∃ q, A.q = q := ⟨_, rfl⟩
  rw [hq] at c5 HST ⊢
  have HQ := Lib.hid hq
  clear hE ho hk hq hss
  go_enter Tryz.func56, Tryz.ntmps56
  cases o with
  | true =>
    have hfin : RdOut B0 R A (syncNamesD d) w (.returned (.int .i64 ((1 : Nat) : Int))) w := by
      rw [HE.out, if_pos rfl]
      exact HSTAY.out 1
    have HFIN := Lib.hid hfin
    clear hfin
    go_wp2_with fail
    go_ret
    exact HFIN.out
  | false =>
    go_wp2_with fail
    refine HST.out.mono ?_
    rintro _ w1 ⟨rfl, hRD2, hO1, hsz, hrest⟩
    rw [HK.out] at hRD2 ⊢
    clear hsz hrest
    cases k with
    | succ k =>
      have hfin : RdOut B0 R A (syncNamesD d) w (.returned (.int .i64 ((k + 1 : Nat) : Int))) w1 := by
        rw [HE.out, if_neg (by decide), if_pos (by omega)]
        exact ⟨R, A, rfl, hRD2, hO1, rfl⟩
      have HFIN := Lib.hid hfin
      have d1 : (((k + 1 : Nat) : Int) == 0) = false := by rw [beq_eq_false_iff_ne]; omega
      clear hfin hRD2 hO1
      go_wp2_with fail
      go_ret
      exact HFIN.out
    | zero =>
      obtain ⟨hlr, hlo⟩ := RD.set_safe hRD2
      obtain ⟨X, c, hv, hX, hc⟩ := hRD2.things.out
      have c0 : w1.cell? ⟨q, 0, none⟩ = some (.slice X dd.things.length c) := by rw [← HQ.out, ← hv]; exact Blk.cell hRD2.blk 0
      have c1 : w1.cell? ⟨q, 1, none⟩ = some A.sv := by rw [← HQ.out]; exact Blk.cell hRD2.blk 1
      have c2 : w1.cell? ⟨q, 2, none⟩ = some A.gv := by rw [← HQ.out]; exact Blk.cell hRD2.blk 2
      have g1 : w1.frozen? ⟨q, 1, none⟩ = false := by rw [← HQ.out]; exact Blk.frozen hRD2.blk 1
      have g2 : w1.frozen? ⟨q, 2, none⟩ = false := by rw [← HQ.out]; exact Blk.frozen hRD2.blk 2
      have hql : q < w1.heap.size := lt_of_cell c0
      rw [hv, HQ.out] at hlr hlo
      have hfin : RdOut B0 R A (syncNamesD d) w (.returned (.int .i64 0)) ((w1.setCell ⟨q, 1, none⟩ (.slice X dd.things.length c)).setCell ⟨q, 2, none⟩ (.slice none 0 0)) := by
        rw [HE.out, if_neg (by decide), if_neg (by omega), ← HSS.out.1]
        exact ⟨R, _, rfl, hlr, hO1.trans hlo, HQ.out.symm⟩
      have HFIN := Lib.hid hfin
      clear hfin hlr hlo hv hX hRD2 hO1 hc
      go_wp2_with fail
      go_ret
      exact HFIN.out

theorem fileD_lt (hf : Fit d) {s : Txt} {i : Nat} (h : fileD d s = .ok i) : i < d.files.length := (fileD_ok hf h).1
theorem allD_error {s : Txt} {k : Nat} (h : fileD d s = .error k) : allD d s = ([], k) := by unfold allD; rw [h]
theorem allD_ok {s : Txt} {i : Nat} (h : fileD d s = .ok i) : allD d s = ((fAt d i).now, 0) := by unfold allD; rw [h]
theorem fileD_error {s : Txt} {k : Nat} (hr : fileD d s = .error k) : k ≠ 0 := by
  rintro rfl
  unfold fileD at hr
  split at hr
  · cases hr
  split at hr
  · cases hr
  unfold fileT at hr
  split at hr
  · cases hr
  split at hr <;> cases hr
set_option maxRecDepth 100000 in
set_option maxHeartbeats 2000000 in
theorem rall_calls (S : ByteArray) (w : World) (h : RD B0 w R A d) (hf : Fit d) (hS : S.size ≤ 1073741824) :
    Calls Tryz.prog 63 #[.pointer (some ⟨A.q, 0, none⟩), .string S] w fun e w' => e = .returned (.tuple #[txtV (allD d S.data.toList).1, .int .i64 ((allD d S.data.toList).2 : Int)]) ∧ w = w' := by
  have HF := Lib.hid (rfile_calls S w h (Nat.le_trans hf.tl (by decide)) hS)
  obtain ⟨r, hr⟩ : ∃ r, fileD d S.data.toList = r := ⟨_, rfl⟩
  rw [hr] at HF
  obtain ⟨q, hq⟩ : ∃ q, A.q = q := ⟨_, rfl⟩
  rw [hq] at HF ⊢
  cases r with
  | error k =>
    rw [allD_error hr]
    have hk := fileD_error hr
    have d1 : ((k : Int) == 0) = false := by rw [beq_eq_false_iff_ne]; omega
    unfold fileV at HF
    simp only [] at HF ⊢
    clear hk hr hq
    go_enter Tryz.func63, Tryz.ntmps63
    go_wp2_with fail
    refine HF.out.mono ?_
    rintro _ w1 ⟨rfl, rfl⟩
    go_wp2_with fail
    go_ret2
    exact ⟨rfl, rfl⟩
  | ok i =>
    obtain ⟨g, c, v, hfv, hRg, hgl, hnc, hv, k0, k1, k2, hch, hfz⟩ := h.file_at (fileD_lt hf hr)
    have c3 : w.cell? ⟨q, 3, none⟩ = some (.slice (some ⟨g, 0, none⟩) d.files.length c) := by rw [← hq, ← hfv]; exact Blk.cell h.blk 3
    have hin : (i : Int) < (d.files.length : Int) := by have := fileD_lt hf hr; omega
    have hin2 : i < d.files.length := by omega
    have hfl := hf.fl
    obtain ⟨n, hn⟩ : ∃ n, d.files.length = n := ⟨_, rfl⟩
    rw [hn] at c3 hin hin2 hnc hfl
    unfold txtV at k0
    obtain ⟨T, hT⟩ : ∃ T : ByteArray, (⟨(fAt d i).now.toArray⟩ : ByteArray) = T := ⟨_, rfl⟩
    have hTv : txtV (fAt d i).now = .string T := by unfold txtV; rw [hT]
    rw [hT] at k0
    rw [allD_ok hr]
    simp only []
    rw [hTv]
    unfold fileV at HF
    simp only [] at HF
    clear hfv hv hch hfz k1 k2 hr hq hn hT hTv
    go_enter Tryz.func63, Tryz.ntmps63
    go_wp2_with fail
    refine HF.out.mono ?_
    rintro _ w1 ⟨rfl, rfl⟩
    go_wp2_with fail
    go_ret2
    exact ⟨rfl, rfl⟩
end
end Go.Proofs.YtdaidbnbfjgjeaaGreatDoor

/-! ## RdkWalksG -/
/- The walks of layer 3 (disk), the document's: Read, Sync, Flip, Cut, Append. -/
namespace Go.Proofs.YtdaidbnbfjgjeaaGreatDoor
open Go.RowKit Go.Shelf Go.Maps Go.Sort
attribute [local go_sem ↓] Go.wp_at_zero Go.wp_at_succ
attribute [local go_sem] Later.cell Later.frozen

section
variable {B0 : Nat} {R : Nat → Nat} {A : RAdr} {d : Ds}
set_option maxRecDepth 100000 in
set_option maxHeartbeats 2000000 in
theorem rread_calls (S : ByteArray) (k n : Int) (w : World) (h : RD B0 w R A d) (hf : Fit d) (hS : S.size ≤ 1073741824) (hk1 : -9223372036854775808 ≤ k) (hk2 : k ≤ 9223372036854775807) (hn1 : -9223372036854775808 ≤ n) (hn2 : n ≤ 9223372036854775807) (hnl : ∀ i, (fAt d i).now.length ≤ 1073741824) :
    Calls Tryz.prog 62 #[.pointer (some ⟨A.q, 0, none⟩), .string S, .int .i64 k, .int .i64 n] w fun e w' => e = .returned (.tuple #[txtV (readD d S.data.toList k n).1, .int .i64 ((readD d S.data.toList k n).2 : Int)]) ∧ w = w' := by
  have hal := rall_calls S w h hf hS
  have hlen : (allD d S.data.toList).1.length ≤ 1073741824 := by
    cases hr : fileD d S.data.toList with
    | error e => rw [allD_error hr]; simp
    | ok i => rw [allD_ok hr]; exact hnl i
  obtain ⟨T0, j, hTj⟩ : ∃ a b, allD d S.data.toList = (a, b) := ⟨_, _, rfl⟩
  have hrd : readD d S.data.toList k n = if j ≠ 0 then ([], j) else if k < 0 ∨ (T0.length : Int) < k ∨ n < 0 ∨ (T0.length : Int) - k < n then ([], 6) else ((T0.drop k.toNat).take n.toNat, 0) := by unfold readD; rw [hTj]
  rw [hTj] at hal hlen
  rw [hrd]
  obtain ⟨T, hT⟩ : ∃ T : ByteArray, (⟨T0.toArray⟩ : ByteArray) = T := ⟨_, rfl⟩
  have hTv : txtV T0 = .string T := by unfold txtV; rw [hT]
  have hTl : T0 = T.data.toList := by rw [← hT]
  simp only [] at hal hlen
  rw [hTv] at hal
  rw [hTl, text_size3] at hlen
  rw [hTl, text_size3]
  have HAL := Lib.hid hal
  clear hal hrd hTj hT hTv hTl hnl
  by_cases hj : j = 0
  · subst hj
    rw [if_neg (by simp)]
    by_cases h1 : k < 0
    · have d1 : decide (k < 0) = true := by simpa using h1
      rw [if_pos (.inl h1)]
      go_enter Tryz.func62, Tryz.ntmps62
      go_wp2_with fail
      refine HAL.out.mono ?_
      rintro _ w1 ⟨rfl, rfl⟩
      go_wp2_with fail
      go_ret2
      exact ⟨rfl, rfl⟩
    · obtain ⟨k, rfl⟩ : ∃ m : Nat, k = (m : Int) := ⟨k.toNat, by omega⟩
      have d1 : decide ((k : Int) < 0) = false := by simp
      by_cases h2 : T.size < k
      · have d2 : decide ((T.size : Int) < (k : Int)) = true := by simpa using h2
        have d2' : decide (T.size < k) = true := by simpa using h2
        rw [if_pos (.inr (.inl (by omega)))]
        go_enter Tryz.func62, Tryz.ntmps62
        go_wp2_with fail
        refine HAL.out.mono ?_
        rintro _ w1 ⟨rfl, rfl⟩
        go_wp2_with fail
        go_ret2
        exact ⟨rfl, rfl⟩
      · have d2 : decide ((T.size : Int) < (k : Int)) = false := by simpa using h2
        have d2' : decide (T.size < k) = false := by simpa using h2
        by_cases h3 : n < 0
        · have d3 : decide (n < 0) = true := by simpa using h3
          rw [if_pos (.inr (.inr (.inl h3)))]
          go_enter Tryz.func62, Tryz.ntmps62
          go_wp2_with fail
          refine HAL.out.mono ?_
          rintro _ w1 ⟨rfl, rfl⟩
          go_wp2_with fail
          go_ret2
          exact ⟨rfl, rfl⟩
        · obtain ⟨n, rfl⟩ : ∃ m : Nat, n = (m : Int) := ⟨n.toNat, by omega⟩
          have d3 : decide ((n : Int) < 0) = false := by simp
          by_cases h4 : (T.size : Int) - (k : Int) < (n : Int)
          · have d4 : decide ((T.size : Int) - (k : Int) < (n : Int)) = true := by simpa using h4
            rw [if_pos (.inr (.inr (.inr h4)))]
            go_enter Tryz.func62, Tryz.ntmps62
            go_wp2_with fail
            refine HAL.out.mono ?_
            rintro _ w1 ⟨rfl, rfl⟩
            go_wp2_with fail
            go_ret2
            exact ⟨rfl, rfl⟩
          · have d4 : decide ((T.size : Int) - (k : Int) < (n : Int)) = false := by simpa using h4
            rw [if_neg (by omega)]
            have hfin : txtV ((T.data.toList.drop k).take n) = .string (T.extract k (k + n)) := by rw [← mid_bytes]; exact txtV_self _
            simp only [Int.toNat_natCast]
            rw [hfin]
            have hkn : k + n ≤ T.size := by omega
            clear hfin
            go_enter Tryz.func62, Tryz.ntmps62
            go_wp2_with fail
            refine HAL.out.mono ?_
            rintro _ w1 ⟨rfl, rfl⟩
            go_wp2_with fail
            go_ret2
            exact ⟨rfl, rfl⟩
  · rw [if_pos hj]
    have d1 : ((j : Int) == 0) = false := by rw [beq_eq_false_iff_ne]; omega
    clear hj
    go_enter Tryz.func62, Tryz.ntmps62
    go_wp2_with fail
    refine HAL.out.mono ?_
    rintro _ w1 ⟨rfl, rfl⟩
    go_wp2_with fail
    go_ret2
    exact ⟨rfl, rfl⟩

set_option maxRecDepth 100000 in
set_option maxHeartbeats 2000000 in
theorem rsync_calls (S : ByteArray) (w : World) (h : RD B0 w R A d) (hf : Fit d) (hS : S.size ≤ 1073741824) :
    Calls Tryz.prog 55 #[.pointer (some ⟨A.q, 0, none⟩), .string S] w (RdOut B0 R A (syncD d S.data.toList) w) := by
  have HF := Lib.hid (rfile_calls S w h (Nat.le_trans hf.tl (by decide)) hS)
  obtain ⟨r, hr⟩ : ∃ r, fileD d S.data.toList = r := ⟨_, rfl⟩
  rw [hr] at HF
  have HST := Lib.hid (rstep_calls w h hf.aw)
  obtain ⟨q, hq⟩ : ∃ q, A.q = q := ⟨_, rfl⟩
  have HQ := Lib.hid hq
  rw [hq] at HF HST ⊢
  cases r with
  | error k =>
    have hfin : RdOut B0 R A (syncD d S.data.toList) w (.returned (.int .i64 (k : Int))) w := by
      have e1 : syncD d S.data.toList = (k, d) := by unfold syncD; rw [hr]
      rw [e1]
      exact RdOut.stay h k
    have hk := fileD_error hr
    have d1 : ((k : Int) == 0) = false := by rw [beq_eq_false_iff_ne]; omega
    unfold fileV at HF
    simp only [] at HF
    have HFIN := Lib.hid hfin
    clear hk hr hq hfin
    go_enter Tryz.func55, Tryz.ntmps55
    go_wp2_with fail
    refine HF.out.mono ?_
    rintro _ w1 ⟨rfl, rfl⟩
    go_wp2_with fail
    go_ret
    exact HFIN.out
  | ok i =>
    obtain ⟨k, dd, hk⟩ : ∃ k d1, stepD d = (k, d1) := ⟨_, _, rfl⟩
    have hss := stepD_same d
    rw [hk] at hss
    have hE : syncD d S.data.toList = if k ≠ 0 then (k, dd) else (0, setF dd i ⟨(fAt d i).now, (fAt d i).now, []⟩) := by unfold syncD; rw [hr]; simp only []; rw [hk]
    have HE := Lib.hid hE
    have HK := Lib.hid hk
    have HSS := Lib.hid hss
    have HR := Lib.hid hr
    unfold fileV at HF
    simp only [] at HF
    clear hE hk hr hq hss
    go_enter Tryz.func55, Tryz.ntmps55
    go_wp2_with fail
    refine HF.out.mono ?_
    rintro _ w1 ⟨rfl, rfl⟩
    go_wp2_with fail
    refine HST.out.mono ?_
    rintro _ w1 ⟨rfl, hRD2, hO1, hsz, hrest⟩
    rw [HK.out] at hRD2 ⊢
    clear hsz hrest
    cases k with
    | succ k =>
      have hfin : RdOut B0 R A (syncD d S.data.toList) w (.returned (.int .i64 ((k + 1 : Nat) : Int))) w1 := by
        rw [HE.out, if_pos (by omega)]
        exact ⟨R, A, rfl, hRD2, hO1, rfl⟩
      have HFIN := Lib.hid hfin
      have d1 : (((k + 1 : Nat) : Int) == 0) = false := by rw [beq_eq_false_iff_ne]; omega
      clear hfin hRD2 hO1
      go_wp2_with fail
      go_ret
      exact HFIN.out
    | zero =>
      have hss := HSS.out
      have efa : fAt dd i = fAt d i := by unfold fAt; rw [hss.2.2.2]
      have hi : i < dd.files.length := by rw [hss.2.2.2]; exact fileD_lt hf HR.out
      obtain ⟨g, c, v, hfv, hRg, hgl, hnc, hv, k0, k1, k2, hch, hfz⟩ := hRD2.file_at hi
      have hfl := hf.fl
      rw [← hss.2.2.2] at hfl
      obtain ⟨n, hn⟩ : ∃ n, dd.files.length = n := ⟨_, rfl⟩
      rw [hn] at hi hnc hfl
      have c3 : w1.cell? ⟨q, 3, none⟩ = some (.slice (some ⟨g, 0, none⟩) n c) := by rw [← HQ.out, ← hn, ← hfv]; exact Blk.cell hRD2.blk 3
      have hql : q < w1.heap.size := lt_of_cell c3
      have hin : (i : Int) < (n : Int) := by omega
      obtain ⟨T, hT⟩ : ∃ T : ByteArray, (⟨(fAt d i).now.toArray⟩ : ByteArray) = T := ⟨_, rfl⟩
      have hTT : (fAt d i).now = T.data.toList := by rw [← hT]
      rw [efa, hTT, txtV_self] at k0
      have g0 := hfz (i * 3)
      have g1 := hfz (i * 3 + 1)
      have g2 := hfz (i * 3 + 2)
      have HFV := Lib.hid hfv
      have HR2 := Lib.hid hRD2
      have HO1 := Lib.hid hO1
      have HN := Lib.hid hn
      have HTT := Lib.hid hTT
      clear hss efa hfv hv hch hfz hRD2 hO1 hn hT hTT
      go_upto_region 7 with fail
      refine wp_region_later_tail 23 (by kernel_rfl) (by kernel_rfl) ?_
      simp only [List.take_succ_cons, List.take_zero, List.drop_succ_cons, List.drop_zero]
      repeat (go_big_quiet_step (fail))
      refine wpQuiet_nil ?_
      rintro w2 ⟨⟨_, hb2⟩, rfl⟩
      have hR3 := HR2.out.below hb2
      obtain ⟨hlr, hlo⟩ := hR3.file_plain (i := i) (by rw [HN.out]; exact hi) HFV.out (fAt d i).now
      obtain ⟨g', c', v', hfv', _, hgl', _, _, m0, m1, m2, _, hfz'⟩ := hR3.file_at (i := i) (by rw [HN.out]; exact hi)
      rw [HFV.out] at hfv'
      obtain ⟨rfl, rfl⟩ : g = g' ∧ c = c' := by simpa using hfv'
      have f0 := hfz' (i * 3)
      have f1 := hfz' (i * 3 + 1)
      have f2 := hfz' (i * 3 + 2)
      rw [HTT.out, txtV_self] at hlr hlo
      have hfin : RdOut B0 R A (syncD d S.data.toList) w (.returned (.int .i64 0)) (((w2.setCell ⟨g, i * 3, none⟩ (.string T)).setCell ⟨g, i * 3 + 1, none⟩ (.string T)).setCell ⟨g, i * 3 + 2, none⟩ (.slice none 0 0)) := by
        rw [HE.out, if_neg (by omega), HTT.out]
        exact ⟨R, _, rfl, hlr, (HO1.out.trans (Own.of_below hb2)).trans hlo, rfl⟩
      have HFIN := Lib.hid hfin
      clear hfin hlr hlo hfv' hfz' hR3
      go_wp2_with fail
      go_ret
      exact HFIN.out
end
end Go.Proofs.YtdaidbnbfjgjeaaGreatDoor
