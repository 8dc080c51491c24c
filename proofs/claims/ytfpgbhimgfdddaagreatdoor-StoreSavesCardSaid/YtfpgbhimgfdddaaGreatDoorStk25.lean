/- Merged (what the claim wants of): StoSave2, OpenS. -/
import Derived.Test.YtfpgbhimgfdddaaGreatDoorStk24
import Derived.Test.YtfpgbhimgfdddaaGreatDoorRows
import Derived.ProofKit
import Derived.SizedLaws
import Derived.OpenShut
import Derived.ChangeMaps5
set_option linter.unusedVariables false
set_option linter.unusedSimpArgs false
/- The walks of layer 20 (store): Save and Load (printed by gen_stosave2.py). -/
namespace Go.Proofs.YtfpgbhimgfdddaaGreatDoor
open Go.RowKit Go.Shelf Go.Sort
attribute [local go_sem ↓] Go.wp_at_zero Go.wp_at_succ
attribute [local go_sem] Later.cell Later.frozen

set_option maxHeartbeats 4000000 in
theorem sdir_calls (n : Int) (h1 : -9223372036854775808 ≤ n) (h2 : n ≤ 9223372036854775807) (w : World) (hT : PowTab w) :
    Calls Tryz.prog 23 #[.int .i64 n] w fun e w' => e = .returned (.string ⟨(nameT sB n).toArray⟩) ∧ Below w.heap.size w w' := by
  have HC := Lib.hid (sname_calls ⟨#[98]⟩ n h1 h2 (by decide) w hT)
  clear hT
  go_enter Tryz.func23, Tryz.ntmps23
  go_wp2_with fail
  refine HC.out.mono ?_
  rintro e w1 ⟨rfl, hb⟩
  have HB := Lib.hid hb
  clear hb
  go_wp2_with fail
  go_ret
  exact ⟨rfl, HB.out⟩
theorem nameT_good (l : Txt) {n : Int} (h1 : 1 ≤ n) (h2 : n ≤ 99999999) : nameT l n = l ++ padN 8 n.toNat := by unfold nameT; rw [if_neg (by omega)]
theorem nameT_bad (l : Txt) {n : Int} (h : n < 1 ∨ 99999999 < n) : nameT l n = [] := by unfold nameT; rw [if_pos h]
theorem padN_name : ∀ k n, (padN k n).all nameC = true
  | 0, _ => rfl
  | k + 1, n => by
    have ih := padN_name k (n / 10)
    rw [padN, List.all_append, ih]
    have h : n % 10 < 10 := Nat.mod_lt _ (by decide)
    obtain ⟨d, hd⟩ : ∃ d, n % 10 = d := ⟨_, rfl⟩
    rw [hd] at h ⊢
    match d, h with
    | 0, _ => decide
    | 1, _ => decide
    | 2, _ => decide
    | 3, _ => decide
    | 4, _ => decide
    | 5, _ => decide
    | 6, _ => decide
    | 7, _ => decide
    | 8, _ => decide
    | 9, _ => decide
    | d + 10, h => exact absurd h (by omega)
/-- The names of a block's two directories. -/
theorem two_names {n : Int} (h1 : 1 ≤ n) (h2 : n ≤ 99999999) : Two2 (nameT sT n) (nameT sB n) := by
  rw [nameT_good sT h1 h2, nameT_good sB h1 h2]
  have hl := padN_len 8 n.toNat
  have ha := padN_name 8 n.toNat
  have nm : ∀ c : UInt8, nameC c = true → c ≠ 46 → nameB ([c] ++ padN 8 n.toNat) = true := by
    intro c hc h46
    unfold nameB
    simp only [Bool.and_eq_true]
    refine ⟨⟨?_, ?_⟩, ?_⟩
    · rw [List.all_append, ha]; simp [hc]
    · simp [hl]
    · simp [hl, h46]
  refine ⟨nm 116 (by decide) (by decide), nm 98 (by decide) (by decide), ?_, ?_⟩
  · intro e
    injection e with e1 e2
    exact absurd e1 (by decide)
  · simp [sT, sB]
/-- What the world holds for the store. -/
structure SEnv (B0 : Nat) (a : Nat → Addr) (w : World) : Prop where
  e : Env5 B0 a w
  nib : NibTab w
  pow : PowTab w
  hb : B0 ≤ w.heap.size
/-- The constants' places. -/
structure SCon (B0 : Nat) (a : Nat → Addr) : Prop where
  ap : Apart a
  nib : 7 < B0
  pow : 9 < B0
theorem SEnv.below {B0 : Nat} {a : Nat → Addr} {w w' : World} (h : SEnv B0 a w) (hc : SCon B0 a) (hb : Below B0 w w') : SEnv B0 a w' :=
  ⟨h.e.below hb, h.nib.below hc.nib hb, h.pow.below hc.pow hb, Nat.le_trans h.hb hb.size⟩
theorem SEnv.low {B0 : Nat} {a : Nat → Addr} {w w' : World} (h : SEnv B0 a w) (hc : SCon B0 a) (hb : Below w.heap.size w w') : SEnv B0 a w' := h.below hc (hb.mono h.hb)
theorem SEnv.out {B0 M p : Nat} {a : Nat → Addr} {d : Ds} {R R' : Nat → Nat} {w w' : World} (h : SEnv B0 a w) (hc : SCon B0 a) (hD : Dk B0 M w R p d) (ho : Out R R' w w') : SEnv B0 a w' := h.below hc (ho.below h.hb hD.low)
theorem Out.all {R R' : Nat → Nat} {w w' : World} (h : Out R R' w w') (hz : ∀ k, k < w.heap.size → R k = 0) : Below w.heap.size w w' := h.below (Nat.le_refl _) hz
section
variable {B0 M p : Nat} {a : Nat → Addr} {R R' : Nat → Nat} {d : Ds} {w w' : World}
set_option maxHeartbeats 4000000 in
theorem save_bad (id : Int) (h1 : -9223372036854775808 ≤ id) (h2 : id ≤ 9223372036854775807) (hbad : id < 1 ∨ 99999999 < id) (P : Value) (FA FB FC : ByteArray) (w : World) (hC : SCon B0 a) (hE : SEnv B0 a w) :
    Calls Tryz.prog 22 #[P, .int .i64 id, fsV FA FB FC] w fun e w' => e = .returned (.iface 26 (.int .i64 2)) ∧ Below w.heap.size w w' := by
  obtain ⟨W, hW⟩ : ∃ W, w.alloc (.cells #[.string FA, .string FB, .string FC] 57) = W := ⟨_, rfl⟩
  have hbl : Below w.heap.size w W := by rw [← hW]; exact (Below.refl _ _).alloc (Nat.le_refl _) _
  have HC := Lib.hid (sname_calls ⟨#[116]⟩ id h1 h2 (by decide) W (hE.low hC hbl).pow)
  have HN : Hid (nameT ([116] : Txt) id = []) := Lib.hid (nameT_bad _ hbad)
  have HW := Lib.hid hW
  have HB := Lib.hid hbl
  clear hE hbl hW hbad hC
  go_enter Tryz.func22, Tryz.ntmps22
  unfold fsV
  go_upto_region 1 with fail
  have hW2 : w.alloc (.cells #[.string FA, .string FB, .string FC] 57) = W := HW.out
  rw [hW2]
  clear hW2
  go_wp2_with fail
  refine HC.out.mono ?_
  rintro e w1 ⟨rfl, hb1⟩
  have HB1 := Lib.hid (HB.out.trans (hb1.mono HB.out.size))
  have hn2 : (⟨(nameT (⟨#[116]⟩ : ByteArray).data.toList id).toArray⟩ : ByteArray) = ⟨#[]⟩ := by
    have hn : nameT (⟨#[116]⟩ : ByteArray).data.toList id = [] := HN.out
    rw [hn]
  rw [hn2]
  clear hb1 hn2
  go_wp2_with fail
  go_ret
  exact ⟨rfl, HB1.out⟩
set_option maxRecDepth 100000 in
set_option maxHeartbeats 8000000 in
theorem save_calls (id : Int) (h1 : 1 ≤ id) (h2 : id ≤ 99999999) (FA FB FC : ByteArray) (w : World) (hD : Dk B0 M w R p d) (hM : M + FA.size + FB.size + FC.size + 16 ≤ 536870912) (hC : SCon B0 a) (hE : SEnv B0 a w) :
    Calls Tryz.prog 22 #[.pointer (some ⟨p, 0, none⟩), .int .i64 id, fsV FA FB FC] w (DkOut a B0 (M + FA.size + FB.size + FC.size + 15) R p (saveD d (nameT sT id) (nameT sB id) (fs3 FA FB FC)) w) := by
  obtain ⟨g, hgg⟩ : ∃ b, w.heap.size = b := ⟨_, rfl⟩
  obtain ⟨W, hW⟩ : ∃ W, w.alloc (.cells #[.string FA, .string FB, .string FC] 57) = W := ⟨_, rfl⟩
  have hbl : Below w.heap.size w W := by rw [← hW]; exact (Below.refl _ _).alloc (Nat.le_refl _) _
  have hgb : Blk W g 57 #[.string FA, .string FB, .string FC] := by rw [← hW, ← hgg]; exact Blk.new _ _ _
  have hEW := hE.low hC hbl
  have HCN := Lib.hid (sname_calls ⟨#[116]⟩ id (by omega) (by omega) (by decide) W hEW.pow)
  obtain ⟨T, hTe⟩ : ∃ T : ByteArray, (⟨(nameT (⟨#[116]⟩ : ByteArray).data.toList id).toArray⟩ : ByteArray) = T := ⟨_, rfl⟩
  have hTl : T.data.toList = nameT sT id := by rw [← hTe]; rfl
  have hTz : T.size = 9 := by
    have : T.size = T.data.toList.length := by simp
    rw [this, hTl, nameT_good sT h1 h2]
    simp [padN_len, sT]
  obtain ⟨U, hUe⟩ : ∃ T : ByteArray, (⟨(nameT sB id).toArray⟩ : ByteArray) = T := ⟨_, rfl⟩
  have hUl : U.data.toList = nameT sB id := by rw [← hUe]
  have hUz : U.size = 9 := by
    have : U.size = U.data.toList.length := by simp
    rw [this, hUl, nameT_good sB h1 h2]
    simp [padN_len, sB]
  have hne : T ≠ ⟨#[]⟩ := fun e => by rw [e] at hTz; cases hTz
  have HTE := Lib.hid hTe
  have HUE := Lib.hid hUe
  have HTL := Lib.hid (⟨hTl, hTz⟩ : _ ∧ _)
  have HUL := Lib.hid (⟨hUl, hUz⟩ : _ ∧ _)
  have HNE := Lib.hid (ne_facts hne)
  have HD := Lib.hid (hD.below hbl)
  have HE := Lib.hid hEW
  have HGB := Lib.hid (⟨hgb, hD.new (by omega)⟩ : Blk W g 57 #[.string FA, .string FB, .string FC] ∧ R g = 0)
  have HC := Lib.hid hC
  have HW := Lib.hid hW
  have HO : Hid (Out R R w W) := Lib.hid (Out.of_below hbl)
  have HG := Lib.hid hgg
  have HI12 := Lib.hid (⟨h1, h2⟩ : _ ∧ _)
  have HS : Hid (saveD d (nameT sT id) (nameT sB id) (fs3 FA FB FC) = (if (seqD [(renameD · T.data.toList U.data.toList)] (writeD d T.data.toList (fs3 FA FB FC))).1 = 0 then syncNamesD (seqD [(renameD · T.data.toList U.data.toList)] (writeD d T.data.toList (fs3 FA FB FC))).2 else ((seqD [(renameD · T.data.toList U.data.toList)] (writeD d T.data.toList (fs3 FA FB FC))).1, (removeD (seqD [(renameD · T.data.toList U.data.toList)] (writeD d T.data.toList (fs3 FA FB FC))).2 T.data.toList).2))) := Lib.hid (by
    rw [hTl, hUl]; rfl)
  clear hD hE hbl hW hgb hEW hTe hUe hTl hTz hUl hUz hne hgg hC h1 h2
  go_enter Tryz.func22, Tryz.ntmps22
  unfold fsV
  go_upto_region 1 with fail
  have hW2 : w.alloc (.cells #[.string FA, .string FB, .string FC] 57) = W := HW.out
  have hg2 : w.heap.size = g := HG.out
  rw [hW2, hg2]
  clear hW2 hg2
  go_wp2_with fail
  refine HCN.out.mono ?_
  rintro e w1 ⟨rfl, hb1⟩
  have e0 : (⟨(nameT (⟨#[116]⟩ : ByteArray).data.toList id).toArray⟩ : ByteArray) = T := HTE.out
  rw [e0]
  have HD1 := Lib.hid (HD.out.below hb1)
  have HE1 := Lib.hid (HE.out.low HC.out hb1)
  have HO1 : Hid (Out R R w w1) := Lib.hid (HO.out.trans (Out.of_below hb1))
  have HGB1 : Hid (Blk w1 g 57 #[.string FA, .string FB, .string FC]) := Lib.hid (HGB.out.1.below hb1 HGB.out.1.lt)
  obtain ⟨n1, n2, n3, n4⟩ := HNE.out
  have n5 : T.toList.isEmpty = false := by rw [empty_size3]; exact decide_eq_false (by have := HTL.out.2; omega)
  have n7 : decide (T.toList = []) = false := by
    have n6 : T.toList ≠ [] := fun e => by rw [e] at n5; simp at n5
    simpa using n6
  have x0 : w1.cell? ⟨g, 0, none⟩ = some (.string FA) := HGB1.out.cell 0
  have x1 : w1.cell? ⟨g, 1, none⟩ = some (.string FB) := HGB1.out.cell 1
  have x2 : w1.cell? ⟨g, 2, none⟩ = some (.string FC) := HGB1.out.cell 2
  clear hb1 e0
  go_upto_region 5 with (go_at_call 72; refine (write_calls T FA FB FC w1 HD1.out (by omega) HE1.out.hb HE1.out.e HC.out.ap (by have := HTL.out.2; omega)).mono ?_; rintro e w2 ⟨v2, R2, rfl, hv2, hd2, ho2⟩)
  obtain ⟨k2, y2, hr2⟩ : ∃ k y, writeD d T.data.toList (fs3 FA FB FC) = (k, y) := ⟨_, _, rfl⟩
  rw [hr2] at hv2 hd2 HS
  have HO2 := Lib.hid (HO1.out.trans ho2)
  have HE2 := Lib.hid (HE1.out.out HC.out HD1.out ho2)
  have HV2 := Lib.hid hv2
  have HD2 := Lib.hid hd2
  obtain ⟨r3, hr3⟩ : ∃ r, seqD [(renameD · T.data.toList U.data.toList)] (k2, y2) = r := ⟨_, rfl⟩
  rw [hr3] at HS
  have HR3 := Lib.hid hr3
  clear hr2 hr3 hv2 hd2 ho2 x0 x1 x2 n1 n2 n3 n4 n5 n7
  go_cut [19] (fun s19 wz => wz = w2 ∧ s19 = .bool (decide (k2 = 0)))
  case first =>
    by_cases hk : k2 = 0
    · obtain rfl := HV2.out.nil hk
      have DK := Lib.hid (decide_eq_true hk)
      clear hk
      go_wp2_with fail
      go_meet
      exact ⟨rfl, vb DK.out.symm⟩
    · obtain ⟨q, op, path, rfl, hq1, hq2⟩ := HV2.out.some_ hk
      have DK := Lib.hid (decide_eq_false hk)
      clear hq1 hq2 hk
      go_wp2_with fail
      go_meet
      exact ⟨rfl, vb DK.out.symm⟩
  case rest =>
    obtain ⟨rfl, rfl⟩ := hcut
    obtain ⟨w2, rfl⟩ : ∃ x, x = wc := ⟨_, rfl⟩
    go_upto_if 19 with fail
    go_cut [8] (fun s8 wz => ∃ (v : Value) (R3 : Nat → Nat), v = s8 ∧ ErrW a wz R3 r3.1 v ∧ Dk B0 (M + FA.size + FB.size + FC.size + 12) wz R3 p r3.2 ∧ Out R R3 w wz ∧ SEnv B0 a wz)
    case first =>
      by_cases hk : k2 = 0
      · have dk : decide (k2 = 0) = true := decide_eq_true hk
        rw [dk]
        subst hk
        obtain rfl : v2 = .nilIface := HV2.out
        go_wp2_with fail
        refine (sdir_calls id (by have := HI12.out; omega) (by have := HI12.out; omega) w2 HE2.out.pow).mono ?_
        rintro e w3 ⟨rfl, hb3⟩
        have e1 : (⟨(nameT sB id).toArray⟩ : ByteArray) = U := HUE.out
        rw [e1]
        have HD3 := Lib.hid (HD2.out.below hb3)
        have HE3 := Lib.hid (HE2.out.low HC.out hb3)
        have HO3 : Hid (Out R R2 w w3) := Lib.hid (HO2.out.trans (Out.of_below hb3))
        clear hb3 e1
        go_wp2_with fail
        refine (HD3.out.rename (by omega) HE3.out.hb HE3.out.e.f T U (by have := HTL.out.2; omega) (by have := HUL.out.2; omega)).mono ?_
        rintro e w4 ⟨v4, R4, rfl, hv4, hd4, ho4⟩
        have e3 : renameD y2 T.data.toList U.data.toList = r3 := by rw [← HR3.out, seqD, if_pos rfl, seqD]
        rw [e3] at hv4 hd4
        have HV4 := Lib.hid hv4
        have HD4 := Lib.hid hd4
        have HO4 := Lib.hid (HO3.out.trans ho4)
        have HE4 := Lib.hid (HE3.out.out HC.out HD3.out ho4)
        clear hv4 hd4 ho4 e3
        go_wp2_with fail
        go_meet
        exact ⟨_, R4, rfl, HV4.out, HD4.out.more (by omega), HO4.out, HE4.out⟩
      · have dk : decide (k2 = 0) = false := decide_eq_false hk
        rw [dk]
        have e3 : r3 = (k2, y2) := by rw [← HR3.out, seqD_off hk]
        subst e3
        obtain ⟨q, op, path, rfl, hq1, hq2⟩ := HV2.out.some_ hk
        clear hq1 hq2 hk
        go_wp2_with fail
        go_meet
        exact ⟨_, R2, rfl, HV2.out, HD2.out.more (by omega), HO2.out, HE2.out⟩
    case rest =>
      obtain ⟨v, R3, rfl, hv3, hd3, ho3, he3⟩ := hcut
      obtain ⟨w3, rfl⟩ : ∃ x, x = wc := ⟨_, rfl⟩
      have HV3 := Lib.hid hv3
      have HD3 := Lib.hid hd3
      have HO3 := Lib.hid ho3
      have HE3 := Lib.hid he3
      clear hv3 hd3 ho3 he3
      by_cases hk : r3.1 = 0
      · obtain rfl := HV3.out.nil hk
        have HK := Lib.hid hk
        clear hk
        go_wp2_with fail
        refine (HD3.out.syncNames (by omega) HE3.out.hb HE3.out.e.f).mono ?_
        rintro e w4 ⟨v4, R4, rfl, hv4, hd4, ho4⟩
        have HV4 := Lib.hid hv4
        have HD4 := Lib.hid hd4
        have HO4 := Lib.hid (HO3.out.trans ho4)
        clear hv4 hd4 ho4
        go_wp2_with fail
        go_ret
        rw [HS.out, if_pos HK.out]
        exact ⟨_, R4, rfl, HV4.out, HD4.out.more (by omega), HO4.out⟩
      · obtain ⟨q, op, path, rfl, hq1, hq2⟩ := HV3.out.some_ hk
        have HK := Lib.hid hk
        clear hq1 hq2 hk
        go_wp2_with fail
        refine (HD3.out.remove (by omega) HE3.out.hb HE3.out.e.f T (by have := HTL.out.2; omega)).mono ?_
        rintro e w4 ⟨v4, R4, rfl, hv4, hd4, ho4⟩
        have HD4 := Lib.hid hd4
        have HV4 := Lib.hid (HV3.out.out ho4)
        have HO4 := Lib.hid (HO3.out.trans ho4)
        clear hv4 hd4 ho4
        go_wp2_with fail
        go_ret
        rw [HS.out, if_neg HK.out]
        exact ⟨_, R4, rfl, HV4.out, HD4.out.more (by omega), HO4.out⟩
theorem Dk.set (h : Dk B0 M w R p d) {b : Nat} (hb : R b = 0) (k : Nat) (v : Value) : Dk B0 M (w.setCell ⟨b, k, none⟩ v) R p d := by
  obtain ⟨A, h1, h2⟩ := h.ex
  refine ⟨⟨A, h1.same (fun j hj => ⟨Below.heap_setCell _ _ _ j ?_, rfl⟩) (h1.inw.mono (by simp)) h1.low, h2⟩, h.wf⟩
  rintro rfl
  exact hj hb
theorem ErrW.set {k : Nat} {v : Value} (h : ErrW a w R k v) {b : Nat} {t : TypeId} {cs : Array Value} (hb : Blk w b t cs) (ht : t ≠ 71) (j : Nat) (u : Value) : ErrW a (w.setCell ⟨b, j, none⟩ u) R k v := by
  cases k with
  | zero => exact h
  | succ k =>
    obtain ⟨q, op, path, h1, h2, h3⟩ := h
    exact ⟨q, op, path, h1, Blk.far h2 (by have := Blk.ne_ hb h2 ht; simpa using this.symm) u, h3⟩
theorem Out.set {b : Nat} (h : Out R R' w w') (hb : w.heap.size ≤ b) (k : Nat) (v : Value) : Out R R' w (w'.setCell ⟨b, k, none⟩ v) :=
  ⟨h.os, h.tape, h.output, by simpa using h.size, fun j hj h0 => (Below.heap_setCell _ _ _ j (by simp; omega)).trans (h.block j hj h0), h.old⟩
/-- Load at the head of its loop. -/
structure LdI (B0 M p : Nat) (a : Nat → Addr) (R : Nat → Nat) (w : World) (r4 g bn bt : Nat) (d : Ds) (X Y Z : ByteArray) (R' : Nat → Nat) (wr : World) : Prop where
  blks : WrB g bn bt X Y Z wr R'
  res : Blk wr r4 57 #[.string ⟨#[]⟩, .string ⟨#[]⟩, .string ⟨#[]⟩]
  rr : R' r4 = 0
  dk : Dk B0 M wr R' p d
  out : Out R R' w wr
  env : SEnv B0 a wr
def LdX (d : Ds) (D : Txt) (i : Nat) (X Y Z : ByteArray) : Prop := (0 < i → allD d (D ++ sMeta) = (X.data.toList, 0)) ∧ (1 < i → allD d (D ++ sChunks) = (Y.data.toList, 0)) ∧ (2 < i → allD d (D ++ sIndex) = (Z.data.toList, 0))
def LdOut (B0 M p : Nat) (a : Nat → Addr) (R : Nat → Nat) (d : Ds) (b : Txt) (w : World) (e : Ending) (w' : World) : Prop :=
  ∃ XA XB XC v R', e = .returned (.tuple #[fsV XA XB XC, v]) ∧ fs3 XA XB XC = (loadD d b).1 ∧ ErrW a w' R' (loadD d b).2 v ∧ Dk B0 M w' R' p d ∧ Out R R' w w'
set_option maxHeartbeats 4000000 in
theorem load_bad (id : Int) (h1 : -9223372036854775808 ≤ id) (h2 : id ≤ 9223372036854775807) (hbad : id < 1 ∨ 99999999 < id) (P : Value) (w : World) (hC : SCon B0 a) (hE : SEnv B0 a w) :
    Calls Tryz.prog 21 #[P, .int .i64 id] w fun e w' => e = .returned (.tuple #[fsV ⟨#[]⟩ ⟨#[]⟩ ⟨#[]⟩, .iface 26 (.int .i64 2)]) ∧ Below w.heap.size w w' := by
  obtain ⟨W, hW⟩ : ∃ W, (w.alloc (.cells #[.string ⟨#[]⟩, .string ⟨#[]⟩, .string ⟨#[]⟩] 57)).alloc (.cells #[.string ⟨#[]⟩, .string ⟨#[]⟩, .string ⟨#[]⟩] 57) = W := ⟨_, rfl⟩
  have hbl : Below w.heap.size w W := by rw [← hW]; exact ((Below.refl _ _).alloc (Nat.le_refl _) _).alloc (by simp) _
  have HC := Lib.hid (sdir_calls id h1 h2 W (hE.low hC hbl).pow)
  have HN : Hid (nameT sB id = []) := Lib.hid (nameT_bad _ hbad)
  have HK : Hid (Blk W w.heap.size 57 #[.string ⟨#[]⟩, .string ⟨#[]⟩, .string ⟨#[]⟩] ∧ Blk W (w.heap.size + 1) 57 #[.string ⟨#[]⟩, .string ⟨#[]⟩, .string ⟨#[]⟩]) := Lib.hid (by rw [← hW]; exact ⟨(Blk.new _ _ _).alloc _, Blk.newAt (by simp)⟩)
  obtain ⟨g, hg⟩ : ∃ g, w.heap.size = g := ⟨_, rfl⟩
  have HW := Lib.hid hW
  have HB := Lib.hid hbl
  have HG := Lib.hid hg
  clear hE hbl hW hbad hC hg
  go_enter Tryz.func21, Tryz.ntmps21
  go_upto_region 2 with fail
  have hW2 := HW.out
  have hg2 := HG.out
  rw [hW2, hg2]
  rw [hg2] at HK
  clear hW2 hg2
  go_wp2_with fail
  refine HC.out.mono ?_
  rintro e w1 ⟨rfl, hb1⟩
  have HB1 := Lib.hid (HB.out.trans (hb1.mono HB.out.size))
  have HK1 := Lib.hid (⟨HK.out.1.below hb1 HK.out.1.lt, HK.out.2.below hb1 HK.out.2.lt⟩ : _ ∧ _)
  have hn2 : (⟨(nameT sB id).toArray⟩ : ByteArray) = ⟨#[]⟩ := by
    have hn := HN.out
    rw [hn]
  rw [hn2]
  have x0 := HK1.out.1.cell 0
  have x1 := HK1.out.1.cell 1
  have x2 := HK1.out.1.cell 2
  have z0 := HK1.out.1.frozen 0
  have z1 := HK1.out.1.frozen 1
  have z2 := HK1.out.1.frozen 2
  have y0 := HK1.out.2.cell 0
  have y1 := HK1.out.2.cell 1
  have y2 := HK1.out.2.cell 2
  simp at x0 x1 x2 y0 y1 y2
  clear hb1 hn2
  go_wp2_with fail
  have hk : Blk (((w1.setCell ⟨g, 0, none⟩ (.string ⟨#[]⟩)).setCell ⟨g, 1, none⟩ (.string ⟨#[]⟩)).setCell ⟨g, 2, none⟩ (.string ⟨#[]⟩)) g 57 #[.string ⟨#[]⟩, .string ⟨#[]⟩, .string ⟨#[]⟩] := ((HK1.out.1.set_ 0 (.string ⟨#[]⟩)).set_ 1 (.string ⟨#[]⟩)).set_ 2 (.string ⟨#[]⟩)
  have hbb : Below w.heap.size w (((w1.setCell ⟨g, 0, none⟩ (.string ⟨#[]⟩)).setCell ⟨g, 1, none⟩ (.string ⟨#[]⟩)).setCell ⟨g, 2, none⟩ (.string ⟨#[]⟩)) := ((HB1.out.setCell (by rw [HG.out]; exact Nat.le_refl _) _).setCell (by rw [HG.out]; exact Nat.le_refl _) _).setCell (by rw [HG.out]; exact Nat.le_refl _) _
  refine bodyPost_ret (results_cell1 rfl _ _ ⟨g, 0, none⟩ (fsV ⟨#[]⟩ ⟨#[]⟩ ⟨#[]⟩) rfl (run_loadVar_row _ g 57 57 _ (0, 0) _ hk Tryz.underlying57 rfl (by kernel_rfl))) rfl ?_
  exact ⟨rfl, hbb⟩
set_option maxRecDepth 100000 in
set_option maxHeartbeats 8000000 in
theorem load_calls (id : Int) (h1 : 1 ≤ id) (h2 : id ≤ 99999999) (w : World) (hD : Dk B0 M w R p d) (hM : M ≤ 536870912) (hC : SCon B0 a) (hE : SEnv B0 a w) :
    Calls Tryz.prog 21 #[.pointer (some ⟨p, 0, none⟩), .int .i64 id] w (LdOut B0 M p a R d (nameT sB id) w) := by
  obtain ⟨r4, hr4⟩ : ∃ b, w.heap.size = b := ⟨_, rfl⟩
  obtain ⟨W, hW⟩ : ∃ W, (w.alloc (.cells #[.string ⟨#[]⟩, .string ⟨#[]⟩, .string ⟨#[]⟩] 57)).alloc (.cells #[.string ⟨#[]⟩, .string ⟨#[]⟩, .string ⟨#[]⟩] 57) = W := ⟨_, rfl⟩
  have hbl : Below w.heap.size w W := by rw [← hW]; exact ((Below.refl _ _).alloc (Nat.le_refl _) _).alloc (by simp) _
  have HK : Hid (Blk W r4 57 #[.string ⟨#[]⟩, .string ⟨#[]⟩, .string ⟨#[]⟩] ∧ Blk W (r4 + 1) 57 #[.string ⟨#[]⟩, .string ⟨#[]⟩, .string ⟨#[]⟩] ∧ R r4 = 0 ∧ R (r4 + 1) = 0) := Lib.hid (by rw [← hW, ← hr4]; exact ⟨(Blk.new _ _ _).alloc _, Blk.newAt (by simp), hD.new (by omega), hD.new (by omega)⟩)
  have hEW := hE.low hC hbl
  have HCN := Lib.hid (sdir_calls id (by omega) (by omega) W hEW.pow)
  obtain ⟨D, hTe⟩ : ∃ T : ByteArray, (⟨(nameT sB id).toArray⟩ : ByteArray) = T := ⟨_, rfl⟩
  have hTl : D.data.toList = nameT sB id := by rw [← hTe]
  have hTz : D.size = 9 := by
    have : D.size = D.data.toList.length := by simp
    rw [this, hTl, nameT_good sB h1 h2]
    simp [padN_len, sB]
  have hne : D ≠ ⟨#[]⟩ := fun e => by rw [e] at hTz; cases hTz
  have HTE := Lib.hid hTe
  have HTL := Lib.hid (⟨hTl, hTz⟩ : _ ∧ _)
  have HNE := Lib.hid (ne_facts hne)
  have HD := Lib.hid (hD.below hbl)
  have HE := Lib.hid hEW
  have HC := Lib.hid hC
  have HW := Lib.hid hW
  have HO : Hid (Out R R w W) := Lib.hid (Out.of_below hbl)
  have HG := Lib.hid hr4
  have HB0 := Lib.hid hE.hb
  clear hD hE hbl hW hEW hTe hTl hTz hne hr4 hC h1 h2
  go_enter Tryz.func21, Tryz.ntmps21
  go_upto_region 2 with fail
  have hW2 := HW.out
  have hg2 : w.heap.size = r4 := HG.out
  rw [hW2, hg2]
  clear hW2 hg2
  go_wp2_with fail
  refine HCN.out.mono ?_
  rintro e w1 ⟨rfl, hb1⟩
  have e0 := HTE.out
  rw [e0]
  have HK1 : Hid (Blk w1 r4 57 #[.string ⟨#[]⟩, .string ⟨#[]⟩, .string ⟨#[]⟩] ∧ Blk w1 (r4 + 1) 57 #[.string ⟨#[]⟩, .string ⟨#[]⟩, .string ⟨#[]⟩]) := Lib.hid ⟨HK.out.1.below hb1 HK.out.1.lt, HK.out.2.1.below hb1 HK.out.2.1.lt⟩
  have HD1 := Lib.hid (HD.out.below hb1)
  have HE1 := Lib.hid (HE.out.low HC.out hb1)
  have HO1 : Hid (Out R R w w1) := Lib.hid (HO.out.trans (Out.of_below hb1))
  obtain ⟨n1, n2, n3, n4⟩ := HNE.out
  have n5 : D.toList.isEmpty = false := by rw [empty_size3]; exact decide_eq_false (by have := HTL.out.2; omega)
  have n7 : decide (D.toList = []) = false := by
    have n6 : D.toList ≠ [] := fun e => by rw [e] at n5; simp at n5
    simpa using n6
  clear hb1 e0
  go_upto_region 6 with (go_at_call 70; refine (files_calls (r4 + 1) w1).mono ?_; rintro e w3 ⟨rfl, hb3⟩; unfold namesV textsV)
  obtain ⟨bn, hbn⟩ : ∃ x, w3.heap.size = x := ⟨_, rfl⟩
  obtain ⟨w4, hw4⟩ : ∃ x, (w3.alloc (.cells #[.string ⟨#[47, 109, 101, 116, 97]⟩, .string ⟨#[47, 99, 104, 117, 110, 107, 115]⟩, .string ⟨#[47, 105, 110, 100, 101, 120]⟩] 152)).alloc (.cells #[.pointer (some ⟨r4 + 1, 0, none⟩), .pointer (some ⟨r4 + 1, 1, none⟩), .pointer (some ⟨r4 + 1, 2, none⟩)] 154) = x := ⟨_, rfl⟩
  have hb4 : Below w1.heap.size w1 w4 := by rw [← hw4]; exact (hb3.alloc hb3.size _).alloc (by have := hb3.size; simp; omega) _
  have HI : Hid (LdI B0 M p a R w r4 (r4 + 1) bn (bn + 1) d ⟨#[]⟩ ⟨#[]⟩ ⟨#[]⟩ R w4) := Lib.hid (by
    have ho := Out.of_below (R := R) hb4
    refine ⟨⟨HK1.out.2.below hb4 HK1.out.2.lt, ?_, ?_, HK.out.2.2.2, ?_, ?_⟩, HK1.out.1.below hb4 HK1.out.1.lt, HK.out.2.2.1, HD1.out.below hb4, HO1.out.trans ho, HE1.out.low HC.out hb4⟩
    · rw [← hw4, ← hbn]; exact (Blk.new _ _ _).alloc _
    · rw [← hw4, ← hbn]; exact Blk.newAt (by simp)
    · exact HD1.out.new (by have := hb3.size; omega)
    · exact HD1.out.new (by have := hb3.size; omega))
  rw [hw4, hbn]
  clear hw4 hbn hb3 hb4 n1 n2 n3 n4 n5 n7
  have y0 : w4.cell? ⟨bn, 0, none⟩ = some (.string ⟨#[47, 109, 101, 116, 97]⟩) := HI.out.blks.kn.cell 0
  have y1 : w4.cell? ⟨bn, 1, none⟩ = some (.string ⟨#[47, 99, 104, 117, 110, 107, 115]⟩) := HI.out.blks.kn.cell 1
  have y2 : w4.cell? ⟨bn, 2, none⟩ = some (.string ⟨#[47, 105, 110, 100, 101, 120]⟩) := HI.out.blks.kn.cell 2
  go_wp2_with fail
  clear y0 y1 y2
  have hD9 : D.size = 9 := HTL.out.2
  go_loopg [25] 3 (fun gh s25 wr => ∃ (i : Nat) (R' : Nat → Nat) (X Y Z : ByteArray), i + gh = 3 ∧ s25 = .int .i64 (i : Int) ∧ LdI B0 M p a R w r4 (r4 + 1) bn (bn + 1) d X Y Z R' wr ∧ LdX d D.data.toList i X Y Z)
  case atStart => exact ⟨0, R, _, _, _, rfl, rfl, HI.out, fun h => absurd h (by omega), fun h => absurd h (by omega), fun h => absurd h (by omega)⟩
  case round =>
    obtain ⟨i, R', X, Y, Z, hig, rfl, hi, hx⟩ := hrel
    by_cases h3 : i < 3
    · have el : decide ((i : Int) < 3) = true := by simp; omega
      rcases (by omega : i = 0 ∨ i = 1 ∨ i = 2) with rfl | rfl | rfl
      · -- round 0
        have hSd : (D ++ (⟨#[47, 109, 101, 116, 97]⟩ : ByteArray)).data.toList = D.data.toList ++ sMeta := by simp [sMeta]
        have hSs : (D ++ (⟨#[47, 109, 101, 116, 97]⟩ : ByteArray)).size ≤ 1073741824 := by rw [ByteArray.size_append]; show D.size + 5 ≤ _; have := HTL.out.2; omega
        have HCA := Lib.hid (hi.dk.all hM hi.env.hb hi.env.e.f (D ++ (⟨#[47, 109, 101, 116, 97]⟩ : ByteArray)) hSs)
        have HI2 := Lib.hid hi
        have HX := Lib.hid hx
        have HSD := Lib.hid hSd
        clear hi hx hSd hSs el
        have hix := names_at0 wr
        rw [show ((0 : Nat) : Int) = 0 from rfl]
        go_wp2_with fail
        refine HCA.out.mono ?_
        rintro e wa ⟨u, va, Ra, rfl, hu, hva, hda, hoa⟩
        obtain ⟨ta, ka, hra⟩ : ∃ t k, allD d (D ++ (⟨#[47, 109, 101, 116, 97]⟩ : ByteArray)).data.toList = (t, k) := ⟨_, _, rfl⟩
        rw [hra] at hu hva
        obtain rfl : u = .string ⟨ta.toArray⟩ := hu
        have HRA := Lib.hid hra
        have HVA := Lib.hid hva
        have HBA := Lib.hid (HI2.out.blks.out hoa)
        have HIA : Hid (LdI B0 M p a R w r4 (r4 + 1) bn (bn + 1) d X Y Z Ra wa) := Lib.hid ⟨HI2.out.blks.out hoa, hoa.blk HI2.out.res HI2.out.rr, hoa.old _ HI2.out.res.lt HI2.out.rr, hda, HI2.out.out.trans hoa, HI2.out.env.out HC.out HI2.out.dk hoa⟩
        clear hra hva hda hoa
        by_cases hka : ka = 0
        · subst hka
          obtain rfl : va = .nilIface := HVA.out
          have mt : wa.cell? ⟨bn + 1, 0, none⟩ = some (.pointer (some ⟨r4 + 1, 0, none⟩)) := HIA.out.blks.kt.cell 0
          have mg : wa.cell? ⟨r4 + 1, 0, none⟩ = some (.string X) := HIA.out.blks.bg.cell 0
          have zg : wa.frozen? ⟨r4 + 1, 0, none⟩ = false := HIA.out.blks.bg.frozen 0
          go_wp2_with fail
          have hw : w.heap.size = r4 := HG.out
          have hne : bn ≠ r4 + 1 ∧ bn + 1 ≠ r4 + 1 := ⟨Blk.ne_ HIA.out.blks.kn HIA.out.blks.bg (by decide), Blk.ne_ HIA.out.blks.kt HIA.out.blks.bg (by decide)⟩
          have HI3 : Hid (LdI B0 M p a R w r4 (r4 + 1) bn (bn + 1) d ⟨ta.toArray⟩ Y Z Ra (wa.setCell ⟨r4 + 1, 0, none⟩ (.string ⟨ta.toArray⟩))) := Lib.hid (by
            have hi := HIA.out
            exact ⟨⟨hi.blks.bg.set_ 0 _, Blk.far hi.blks.kn (by simpa using hne.1) _, Blk.far hi.blks.kt (by simpa using hne.2) _, hi.blks.rg, hi.blks.rn, hi.blks.rt⟩, Blk.far hi.res (by simp) _, hi.rr, hi.dk.set hi.blks.rg _ _, hi.out.set (by omega) _ _, hi.env.below HC.out ((Below.refl _ _).setCell (by have h3 := HB0.out; show B0 ≤ r4 + 1; omega) _)⟩)
          go_roundg (gk - 1)
          case measure => omega
          case rel => exact ⟨1, Ra, _, _, _, by omega, by go_num, HI3.out, fun _ => by rw [← HSD.out]; exact HRA.out, fun h => absurd h (by omega), fun h => absurd h (by omega)⟩
        · have HKA := Lib.hid hka
          obtain ⟨q, op, path, rfl, hq1, hq2⟩ := HVA.out.some_ hka
          clear hka hq1 hq2
          have y0 : wa.cell? ⟨r4, 0, none⟩ = some (.string ⟨#[]⟩) := HIA.out.res.cell 0
          have y1 : wa.cell? ⟨r4, 1, none⟩ = some (.string ⟨#[]⟩) := HIA.out.res.cell 1
          have y2 : wa.cell? ⟨r4, 2, none⟩ = some (.string ⟨#[]⟩) := HIA.out.res.cell 2
          have z0 : wa.frozen? ⟨r4, 0, none⟩ = false := HIA.out.res.frozen 0
          have z1 : wa.frozen? ⟨r4, 1, none⟩ = false := HIA.out.res.frozen 1
          have z2 : wa.frozen? ⟨r4, 2, none⟩ = false := HIA.out.res.frozen 2
          go_wp2_with fail
          have hk : Blk (((wa.setCell ⟨r4, 0, none⟩ (.string ⟨#[]⟩)).setCell ⟨r4, 1, none⟩ (.string ⟨#[]⟩)).setCell ⟨r4, 2, none⟩ (.string ⟨#[]⟩)) r4 57 #[.string ⟨#[]⟩, .string ⟨#[]⟩, .string ⟨#[]⟩] := ((HIA.out.res.set_ 0 (.string ⟨#[]⟩)).set_ 1 (.string ⟨#[]⟩)).set_ 2 (.string ⟨#[]⟩)
          have hdk := ((HIA.out.dk.set HIA.out.rr 0 (.string ⟨#[]⟩)).set HIA.out.rr 1 (.string ⟨#[]⟩)).set HIA.out.rr 2 (.string ⟨#[]⟩)
          have hot := ((HIA.out.out.set (b := r4) (by rw [HG.out]; exact Nat.le_refl _) 0 (.string ⟨#[]⟩)).set (b := r4) (by rw [HG.out]; exact Nat.le_refl _) 1 (.string ⟨#[]⟩)).set (b := r4) (by rw [HG.out]; exact Nat.le_refl _) 2 (.string ⟨#[]⟩)
          have hvf := ((HVA.out.set HIA.out.res (by decide) 0 (.string ⟨#[]⟩)).set (HIA.out.res.set_ 0 (.string ⟨#[]⟩)) (by decide) 1 (.string ⟨#[]⟩)).set ((HIA.out.res.set_ 0 (.string ⟨#[]⟩)).set_ 1 (.string ⟨#[]⟩)) (by decide) 2 (.string ⟨#[]⟩)
          obtain ⟨wf, hwf⟩ : ∃ x, ((wa.setCell ⟨r4, 0, none⟩ (.string ⟨#[]⟩)).setCell ⟨r4, 1, none⟩ (.string ⟨#[]⟩)).setCell ⟨r4, 2, none⟩ (.string ⟨#[]⟩) = x := ⟨_, rfl⟩
          rw [hwf] at hk hdk hot hvf ⊢
          refine bodyPost_ret (results_cell1 rfl _ wf ⟨r4, 0, none⟩ (fsV ⟨#[]⟩ ⟨#[]⟩ ⟨#[]⟩) rfl (run_loadVar_row wf r4 57 57 _ (0, 0) _ hk Tryz.underlying57 rfl (by kernel_rfl))) rfl ?_
          have hl : loadD d (nameT sB id) = (.none, ka) := by

            have ei := HRA.out
            rw [HSD.out] at ei
            rw [HTL.out.1] at  ei
            unfold loadD
            rw [ei]
            simp [HKA.out]
          exact ⟨_, _, _, _, Ra, rfl, by rw [hl]; rfl, by rw [hl]; exact hvf, hdk, hot⟩
      · -- round 1
        have hSd : (D ++ (⟨#[47, 99, 104, 117, 110, 107, 115]⟩ : ByteArray)).data.toList = D.data.toList ++ sChunks := by simp [sChunks]
        have hSs : (D ++ (⟨#[47, 99, 104, 117, 110, 107, 115]⟩ : ByteArray)).size ≤ 1073741824 := by rw [ByteArray.size_append]; show D.size + 7 ≤ _; have := HTL.out.2; omega
        have HCA := Lib.hid (hi.dk.all hM hi.env.hb hi.env.e.f (D ++ (⟨#[47, 99, 104, 117, 110, 107, 115]⟩ : ByteArray)) hSs)
        have HI2 := Lib.hid hi
        have HX := Lib.hid hx
        have HSD := Lib.hid hSd
        clear hi hx hSd hSs el
        have hix := names_at1 wr
        rw [show ((1 : Nat) : Int) = 1 from rfl]
        go_wp2_with fail
        refine HCA.out.mono ?_
        rintro e wa ⟨u, va, Ra, rfl, hu, hva, hda, hoa⟩
        obtain ⟨ta, ka, hra⟩ : ∃ t k, allD d (D ++ (⟨#[47, 99, 104, 117, 110, 107, 115]⟩ : ByteArray)).data.toList = (t, k) := ⟨_, _, rfl⟩
        rw [hra] at hu hva
        obtain rfl : u = .string ⟨ta.toArray⟩ := hu
        have HRA := Lib.hid hra
        have HVA := Lib.hid hva
        have HBA := Lib.hid (HI2.out.blks.out hoa)
        have HIA : Hid (LdI B0 M p a R w r4 (r4 + 1) bn (bn + 1) d X Y Z Ra wa) := Lib.hid ⟨HI2.out.blks.out hoa, hoa.blk HI2.out.res HI2.out.rr, hoa.old _ HI2.out.res.lt HI2.out.rr, hda, HI2.out.out.trans hoa, HI2.out.env.out HC.out HI2.out.dk hoa⟩
        clear hra hva hda hoa
        by_cases hka : ka = 0
        · subst hka
          obtain rfl : va = .nilIface := HVA.out
          have mt : wa.cell? ⟨bn + 1, 1, none⟩ = some (.pointer (some ⟨r4 + 1, 1, none⟩)) := HIA.out.blks.kt.cell 1
          have mg : wa.cell? ⟨r4 + 1, 1, none⟩ = some (.string Y) := HIA.out.blks.bg.cell 1
          have zg : wa.frozen? ⟨r4 + 1, 1, none⟩ = false := HIA.out.blks.bg.frozen 1
          go_wp2_with fail
          have hw : w.heap.size = r4 := HG.out
          have hne : bn ≠ r4 + 1 ∧ bn + 1 ≠ r4 + 1 := ⟨Blk.ne_ HIA.out.blks.kn HIA.out.blks.bg (by decide), Blk.ne_ HIA.out.blks.kt HIA.out.blks.bg (by decide)⟩
          have HI3 : Hid (LdI B0 M p a R w r4 (r4 + 1) bn (bn + 1) d X ⟨ta.toArray⟩ Z Ra (wa.setCell ⟨r4 + 1, 1, none⟩ (.string ⟨ta.toArray⟩))) := Lib.hid (by
            have hi := HIA.out
            exact ⟨⟨hi.blks.bg.set_ 1 _, Blk.far hi.blks.kn (by simpa using hne.1) _, Blk.far hi.blks.kt (by simpa using hne.2) _, hi.blks.rg, hi.blks.rn, hi.blks.rt⟩, Blk.far hi.res (by simp) _, hi.rr, hi.dk.set hi.blks.rg _ _, hi.out.set (by omega) _ _, hi.env.below HC.out ((Below.refl _ _).setCell (by have h3 := HB0.out; show B0 ≤ r4 + 1; omega) _)⟩)
          go_roundg (gk - 1)
          case measure => omega
          case rel => exact ⟨2, Ra, _, _, _, by omega, by go_num, HI3.out, fun _ => HX.out.1 (by omega), fun _ => by rw [← HSD.out]; exact HRA.out, fun h => absurd h (by omega)⟩
        · have HKA := Lib.hid hka
          obtain ⟨q, op, path, rfl, hq1, hq2⟩ := HVA.out.some_ hka
          clear hka hq1 hq2
          have y0 : wa.cell? ⟨r4, 0, none⟩ = some (.string ⟨#[]⟩) := HIA.out.res.cell 0
          have y1 : wa.cell? ⟨r4, 1, none⟩ = some (.string ⟨#[]⟩) := HIA.out.res.cell 1
          have y2 : wa.cell? ⟨r4, 2, none⟩ = some (.string ⟨#[]⟩) := HIA.out.res.cell 2
          have z0 : wa.frozen? ⟨r4, 0, none⟩ = false := HIA.out.res.frozen 0
          have z1 : wa.frozen? ⟨r4, 1, none⟩ = false := HIA.out.res.frozen 1
          have z2 : wa.frozen? ⟨r4, 2, none⟩ = false := HIA.out.res.frozen 2
          go_wp2_with fail
          have hk : Blk (((wa.setCell ⟨r4, 0, none⟩ (.string ⟨#[]⟩)).setCell ⟨r4, 1, none⟩ (.string ⟨#[]⟩)).setCell ⟨r4, 2, none⟩ (.string ⟨#[]⟩)) r4 57 #[.string ⟨#[]⟩, .string ⟨#[]⟩, .string ⟨#[]⟩] := ((HIA.out.res.set_ 0 (.string ⟨#[]⟩)).set_ 1 (.string ⟨#[]⟩)).set_ 2 (.string ⟨#[]⟩)
          have hdk := ((HIA.out.dk.set HIA.out.rr 0 (.string ⟨#[]⟩)).set HIA.out.rr 1 (.string ⟨#[]⟩)).set HIA.out.rr 2 (.string ⟨#[]⟩)
          have hot := ((HIA.out.out.set (b := r4) (by rw [HG.out]; exact Nat.le_refl _) 0 (.string ⟨#[]⟩)).set (b := r4) (by rw [HG.out]; exact Nat.le_refl _) 1 (.string ⟨#[]⟩)).set (b := r4) (by rw [HG.out]; exact Nat.le_refl _) 2 (.string ⟨#[]⟩)
          have hvf := ((HVA.out.set HIA.out.res (by decide) 0 (.string ⟨#[]⟩)).set (HIA.out.res.set_ 0 (.string ⟨#[]⟩)) (by decide) 1 (.string ⟨#[]⟩)).set ((HIA.out.res.set_ 0 (.string ⟨#[]⟩)).set_ 1 (.string ⟨#[]⟩)) (by decide) 2 (.string ⟨#[]⟩)
          obtain ⟨wf, hwf⟩ : ∃ x, ((wa.setCell ⟨r4, 0, none⟩ (.string ⟨#[]⟩)).setCell ⟨r4, 1, none⟩ (.string ⟨#[]⟩)).setCell ⟨r4, 2, none⟩ (.string ⟨#[]⟩) = x := ⟨_, rfl⟩
          rw [hwf] at hk hdk hot hvf ⊢
          refine bodyPost_ret (results_cell1 rfl _ wf ⟨r4, 0, none⟩ (fsV ⟨#[]⟩ ⟨#[]⟩ ⟨#[]⟩) rfl (run_loadVar_row wf r4 57 57 _ (0, 0) _ hk Tryz.underlying57 rfl (by kernel_rfl))) rfl ?_
          have hl : loadD d (nameT sB id) = (.none, ka) := by
            have e0 := HX.out.1 (by omega)
            have ei := HRA.out
            rw [HSD.out] at ei
            rw [HTL.out.1] at e0 ei
            unfold loadD
            rw [e0, ei]
            simp [HKA.out]
          exact ⟨_, _, _, _, Ra, rfl, by rw [hl]; rfl, by rw [hl]; exact hvf, hdk, hot⟩
      · -- round 2
        have hSd : (D ++ (⟨#[47, 105, 110, 100, 101, 120]⟩ : ByteArray)).data.toList = D.data.toList ++ sIndex := by simp [sIndex]
        have hSs : (D ++ (⟨#[47, 105, 110, 100, 101, 120]⟩ : ByteArray)).size ≤ 1073741824 := by rw [ByteArray.size_append]; show D.size + 6 ≤ _; have := HTL.out.2; omega
        have HCA := Lib.hid (hi.dk.all hM hi.env.hb hi.env.e.f (D ++ (⟨#[47, 105, 110, 100, 101, 120]⟩ : ByteArray)) hSs)
        have HI2 := Lib.hid hi
        have HX := Lib.hid hx
        have HSD := Lib.hid hSd
        clear hi hx hSd hSs el
        have hix := names_at2 wr
        rw [show ((2 : Nat) : Int) = 2 from rfl]
        go_wp2_with fail
        refine HCA.out.mono ?_
        rintro e wa ⟨u, va, Ra, rfl, hu, hva, hda, hoa⟩
        obtain ⟨ta, ka, hra⟩ : ∃ t k, allD d (D ++ (⟨#[47, 105, 110, 100, 101, 120]⟩ : ByteArray)).data.toList = (t, k) := ⟨_, _, rfl⟩
        rw [hra] at hu hva
        obtain rfl : u = .string ⟨ta.toArray⟩ := hu
        have HRA := Lib.hid hra
        have HVA := Lib.hid hva
        have HBA := Lib.hid (HI2.out.blks.out hoa)
        have HIA : Hid (LdI B0 M p a R w r4 (r4 + 1) bn (bn + 1) d X Y Z Ra wa) := Lib.hid ⟨HI2.out.blks.out hoa, hoa.blk HI2.out.res HI2.out.rr, hoa.old _ HI2.out.res.lt HI2.out.rr, hda, HI2.out.out.trans hoa, HI2.out.env.out HC.out HI2.out.dk hoa⟩
        clear hra hva hda hoa
        by_cases hka : ka = 0
        · subst hka
          obtain rfl : va = .nilIface := HVA.out
          have mt : wa.cell? ⟨bn + 1, 2, none⟩ = some (.pointer (some ⟨r4 + 1, 2, none⟩)) := HIA.out.blks.kt.cell 2
          have mg : wa.cell? ⟨r4 + 1, 2, none⟩ = some (.string Z) := HIA.out.blks.bg.cell 2
          have zg : wa.frozen? ⟨r4 + 1, 2, none⟩ = false := HIA.out.blks.bg.frozen 2
          go_wp2_with fail
          have hw : w.heap.size = r4 := HG.out
          have hne : bn ≠ r4 + 1 ∧ bn + 1 ≠ r4 + 1 := ⟨Blk.ne_ HIA.out.blks.kn HIA.out.blks.bg (by decide), Blk.ne_ HIA.out.blks.kt HIA.out.blks.bg (by decide)⟩
          have HI3 : Hid (LdI B0 M p a R w r4 (r4 + 1) bn (bn + 1) d X Y ⟨ta.toArray⟩ Ra (wa.setCell ⟨r4 + 1, 2, none⟩ (.string ⟨ta.toArray⟩))) := Lib.hid (by
            have hi := HIA.out
            exact ⟨⟨hi.blks.bg.set_ 2 _, Blk.far hi.blks.kn (by simpa using hne.1) _, Blk.far hi.blks.kt (by simpa using hne.2) _, hi.blks.rg, hi.blks.rn, hi.blks.rt⟩, Blk.far hi.res (by simp) _, hi.rr, hi.dk.set hi.blks.rg _ _, hi.out.set (by omega) _ _, hi.env.below HC.out ((Below.refl _ _).setCell (by have h3 := HB0.out; show B0 ≤ r4 + 1; omega) _)⟩)
          go_roundg (gk - 1)
          case measure => omega
          case rel => exact ⟨3, Ra, _, _, _, by omega, by go_num, HI3.out, fun _ => HX.out.1 (by omega), fun _ => HX.out.2.1 (by omega), fun _ => by rw [← HSD.out]; exact HRA.out⟩
        · have HKA := Lib.hid hka
          obtain ⟨q, op, path, rfl, hq1, hq2⟩ := HVA.out.some_ hka
          clear hka hq1 hq2
          have y0 : wa.cell? ⟨r4, 0, none⟩ = some (.string ⟨#[]⟩) := HIA.out.res.cell 0
          have y1 : wa.cell? ⟨r4, 1, none⟩ = some (.string ⟨#[]⟩) := HIA.out.res.cell 1
          have y2 : wa.cell? ⟨r4, 2, none⟩ = some (.string ⟨#[]⟩) := HIA.out.res.cell 2
          have z0 : wa.frozen? ⟨r4, 0, none⟩ = false := HIA.out.res.frozen 0
          have z1 : wa.frozen? ⟨r4, 1, none⟩ = false := HIA.out.res.frozen 1
          have z2 : wa.frozen? ⟨r4, 2, none⟩ = false := HIA.out.res.frozen 2
          go_wp2_with fail
          have hk : Blk (((wa.setCell ⟨r4, 0, none⟩ (.string ⟨#[]⟩)).setCell ⟨r4, 1, none⟩ (.string ⟨#[]⟩)).setCell ⟨r4, 2, none⟩ (.string ⟨#[]⟩)) r4 57 #[.string ⟨#[]⟩, .string ⟨#[]⟩, .string ⟨#[]⟩] := ((HIA.out.res.set_ 0 (.string ⟨#[]⟩)).set_ 1 (.string ⟨#[]⟩)).set_ 2 (.string ⟨#[]⟩)
          have hdk := ((HIA.out.dk.set HIA.out.rr 0 (.string ⟨#[]⟩)).set HIA.out.rr 1 (.string ⟨#[]⟩)).set HIA.out.rr 2 (.string ⟨#[]⟩)
          have hot := ((HIA.out.out.set (b := r4) (by rw [HG.out]; exact Nat.le_refl _) 0 (.string ⟨#[]⟩)).set (b := r4) (by rw [HG.out]; exact Nat.le_refl _) 1 (.string ⟨#[]⟩)).set (b := r4) (by rw [HG.out]; exact Nat.le_refl _) 2 (.string ⟨#[]⟩)
          have hvf := ((HVA.out.set HIA.out.res (by decide) 0 (.string ⟨#[]⟩)).set (HIA.out.res.set_ 0 (.string ⟨#[]⟩)) (by decide) 1 (.string ⟨#[]⟩)).set ((HIA.out.res.set_ 0 (.string ⟨#[]⟩)).set_ 1 (.string ⟨#[]⟩)) (by decide) 2 (.string ⟨#[]⟩)
          obtain ⟨wf, hwf⟩ : ∃ x, ((wa.setCell ⟨r4, 0, none⟩ (.string ⟨#[]⟩)).setCell ⟨r4, 1, none⟩ (.string ⟨#[]⟩)).setCell ⟨r4, 2, none⟩ (.string ⟨#[]⟩) = x := ⟨_, rfl⟩
          rw [hwf] at hk hdk hot hvf ⊢
          refine bodyPost_ret (results_cell1 rfl _ wf ⟨r4, 0, none⟩ (fsV ⟨#[]⟩ ⟨#[]⟩ ⟨#[]⟩) rfl (run_loadVar_row wf r4 57 57 _ (0, 0) _ hk Tryz.underlying57 rfl (by kernel_rfl))) rfl ?_
          have hl : loadD d (nameT sB id) = (.none, ka) := by
            have e0 := HX.out.1 (by omega)
            have e1 := HX.out.2.1 (by omega)
            have ei := HRA.out
            rw [HSD.out] at ei
            rw [HTL.out.1] at e0 e1 ei
            unfold loadD
            rw [e0, e1, ei]
            simp [HKA.out]
          exact ⟨_, _, _, _, Ra, rfl, by rw [hl]; rfl, by rw [hl]; exact hvf, hdk, hot⟩
    · have el : decide ((i : Int) < 3) = false := by simp; omega
      obtain rfl : i = 3 := by omega
      have HI2 := Lib.hid hi
      have HX := Lib.hid hx
      have x0 : wr.cell? ⟨r4 + 1, 0, none⟩ = some (.string X) := hi.blks.bg.cell 0
      have x1 : wr.cell? ⟨r4 + 1, 1, none⟩ = some (.string Y) := hi.blks.bg.cell 1
      have x2 : wr.cell? ⟨r4 + 1, 2, none⟩ = some (.string Z) := hi.blks.bg.cell 2
      have y0 : wr.cell? ⟨r4, 0, none⟩ = some (.string ⟨#[]⟩) := hi.res.cell 0
      have y1 : wr.cell? ⟨r4, 1, none⟩ = some (.string ⟨#[]⟩) := hi.res.cell 1
      have y2 : wr.cell? ⟨r4, 2, none⟩ = some (.string ⟨#[]⟩) := hi.res.cell 2
      have z0 : wr.frozen? ⟨r4, 0, none⟩ = false := hi.res.frozen 0
      have z1 : wr.frozen? ⟨r4, 1, none⟩ = false := hi.res.frozen 1
      have z2 : wr.frozen? ⟨r4, 2, none⟩ = false := hi.res.frozen 2
      clear hi hx
      go_wp2_with fail
      have hk : Blk (((wr.setCell ⟨r4, 0, none⟩ (.string X)).setCell ⟨r4, 1, none⟩ (.string Y)).setCell ⟨r4, 2, none⟩ (.string Z)) r4 57 #[.string X, .string Y, .string Z] := ((HI2.out.res.set_ 0 (.string X)).set_ 1 (.string Y)).set_ 2 (.string Z)
      have hdk := ((HI2.out.dk.set HI2.out.rr 0 (.string X)).set HI2.out.rr 1 (.string Y)).set HI2.out.rr 2 (.string Z)
      have hot := ((HI2.out.out.set (b := r4) (by rw [HG.out]; exact Nat.le_refl _) 0 (.string X)).set (b := r4) (by rw [HG.out]; exact Nat.le_refl _) 1 (.string Y)).set (b := r4) (by rw [HG.out]; exact Nat.le_refl _) 2 (.string Z)
      obtain ⟨wf, hwf⟩ : ∃ x, ((wr.setCell ⟨r4, 0, none⟩ (.string X)).setCell ⟨r4, 1, none⟩ (.string Y)).setCell ⟨r4, 2, none⟩ (.string Z) = x := ⟨_, rfl⟩
      rw [hwf] at hk hdk hot ⊢
      refine bodyPost_ret (results_cell1 rfl _ wf ⟨r4, 0, none⟩ (fsV X Y Z) rfl (run_loadVar_row wf r4 57 57 _ (0, 0) _ hk Tryz.underlying57 rfl (by kernel_rfl))) rfl ?_
      have hl : loadD d (nameT sB id) = (fs3 X Y Z, 0) := by
        have e1 := HX.out.1 (by omega)
        have e2 := HX.out.2.1 (by omega)
        have e3 := HX.out.2.2 (by omega)
        rw [HTL.out.1] at e1 e2 e3
        unfold loadD
        rw [e1, e2, e3]
        rfl
      exact ⟨X, Y, Z, _, R', rfl, by rw [hl], by rw [hl]; rfl, hdk, hot⟩
end
end Go.Proofs.YtfpgbhimgfdddaaGreatDoor

/- Small facts for opening the arguments of a statement whose parameters are strings and numbers. -/
namespace Go.Proofs.YtfpgbhimgfdddaaGreatDoor
open Go.ChangeShapes Go.WideShapes Go.ChangeAt Go.RowKit

theorem Tryz.own : ownKnob Tryz.prog.godebug = none := by kernel_rfl
theorem Tryz.laidOut : laidOutB Tryz.prog = true := by kernel_rfl
end Go.Proofs.YtfpgbhimgfdddaaGreatDoor
