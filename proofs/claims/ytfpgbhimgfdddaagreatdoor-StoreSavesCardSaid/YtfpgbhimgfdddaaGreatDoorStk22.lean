/- Merged (what the claim wants of): StoPut. -/
import Derived.Test.YtfpgbhimgfdddaaGreatDoorStk02
import Derived.Test.YtfpgbhimgfdddaaGreatDoorStk20
import Derived.Test.YtfpgbhimgfdddaaGreatDoorStk21
set_option linter.unusedVariables false
set_option linter.unusedSimpArgs false
/- The walks of layer 17 (checkpoint): Put, which puts a file in its place. -/
namespace Go.Proofs.YtfpgbhimgfdddaaGreatDoor
open Go.RowKit Go.Shelf Go.Sort
attribute [local go_sem ↓] Go.wp_at_zero Go.wp_at_succ
attribute [local go_sem] Later.cell Later.frozen

section
variable {B0 M p : Nat} {a : Nat → Addr} {R : Nat → Nat} {d : Ds}
set_option maxHeartbeats 4000000 in
theorem put1_calls (bd bf : Nat) (F : ByteArray) (w : World) (hD : Dk B0 M w R p d) (hM : M ≤ 536870912) (hB : B0 ≤ w.heap.size) (hF : Fails B0 a w) (hS : F.size ≤ 1073741824)
    (h1 : Blk w bd 29 #[.pointer (some ⟨p, 0, none⟩)]) (h2 : Blk w bf 9 #[.string F]) :
    Calls Tryz.prog 105 #[.pointer (some ⟨bd, 0, none⟩), .pointer (some ⟨bf, 0, none⟩)] w (DkOut a B0 (M + 1) R p (createD d F.data.toList) w) := by
  have m1 := h1.cell 0
  have m2 := h2.cell 0
  have HC := Lib.hid (hD.create hM hB hF F hS)
  clear hD hF h1 h2
  go_enter Tryz.func105, Tryz.ntmps105
  go_wp2_with fail
  refine HC.out.mono ?_
  rintro e w1 ⟨v, R1, rfl, hk⟩
  go_wp2_with fail
  go_ret
  exact ⟨v, R1, rfl, hk⟩
set_option maxHeartbeats 4000000 in
theorem put2_calls (bd bf bt : Nat) (F T : ByteArray) (w : World) (hD : Dk B0 M w R p d) (hM : M ≤ 536870912) (hB : B0 ≤ w.heap.size) (hF : Fails B0 a w) (hS : F.size ≤ 1073741824) (hT : T.size ≤ 140737488351232)
    (h1 : Blk w bd 29 #[.pointer (some ⟨p, 0, none⟩)]) (h2 : Blk w bf 9 #[.string F]) (h3 : Blk w bt 9 #[.string T]) :
    Calls Tryz.prog 106 #[.pointer (some ⟨bd, 0, none⟩), .pointer (some ⟨bf, 0, none⟩), .pointer (some ⟨bt, 0, none⟩)] w (DkOut a B0 (M + T.size + 1) R p (appendD d F.data.toList T.data.toList) w) := by
  have m1 := h1.cell 0
  have m2 := h2.cell 0
  have m3 := h3.cell 0
  have hb : Below w.heap.size w (w.alloc (.cells #[.string T] 9)) := (Below.refl _ _).alloc (Nat.le_refl _) _
  have HC := Lib.hid ((hD.below hb).append hM (by have := hb.size; omega) (hF.below (hb.mono hB)) F hS _ _ (strs_one (Blk.new w 9 #[.string T])) hT)
  have HB := Lib.hid hb
  clear hD hF h1 h2 h3 hb
  go_enter Tryz.func106, Tryz.ntmps106
  go_wp2_with fail
  refine HC.out.mono ?_
  rintro e w1 ⟨v, R1, rfl, hk1, hk2, hk3⟩
  go_wp2_with fail
  go_ret
  exact ⟨v, R1, rfl, hk1, hk2, (Out.of_below HB.out).trans hk3⟩
set_option maxHeartbeats 4000000 in
theorem put3_calls (bd bf : Nat) (F : ByteArray) (w : World) (hD : Dk B0 M w R p d) (hM : M ≤ 536870912) (hB : B0 ≤ w.heap.size) (hF : Fails B0 a w) (hS : F.size ≤ 1073741824)
    (h1 : Blk w bd 29 #[.pointer (some ⟨p, 0, none⟩)]) (h2 : Blk w bf 9 #[.string F]) :
    Calls Tryz.prog 107 #[.pointer (some ⟨bd, 0, none⟩), .pointer (some ⟨bf, 0, none⟩)] w (DkOut a B0 (M + 1) R p (syncD d F.data.toList) w) := by
  have m1 := h1.cell 0
  have m2 := h2.cell 0
  have HC := Lib.hid (hD.sync hM hB hF F hS)
  clear hD hF h1 h2
  go_enter Tryz.func107, Tryz.ntmps107
  go_wp2_with fail
  refine HC.out.mono ?_
  rintro e w1 ⟨v, R1, rfl, hk⟩
  go_wp2_with fail
  go_ret
  exact ⟨v, R1, rfl, hk⟩
set_option maxHeartbeats 4000000 in
theorem put4_calls (bd bf bp : Nat) (F P : ByteArray) (w : World) (hD : Dk B0 M w R p d) (hM : M ≤ 536870912) (hB : B0 ≤ w.heap.size) (hF : Fails B0 a w) (hS : F.size ≤ 1073741824) (hP : P.size ≤ 1073741824)
    (h1 : Blk w bd 29 #[.pointer (some ⟨p, 0, none⟩)]) (h2 : Blk w bf 9 #[.string F]) (h3 : Blk w bp 9 #[.string P]) :
    Calls Tryz.prog 108 #[.pointer (some ⟨bd, 0, none⟩), .pointer (some ⟨bf, 0, none⟩), .pointer (some ⟨bp, 0, none⟩)] w (DkOut a B0 (M + 1) R p (renameD d F.data.toList P.data.toList) w) := by
  have m1 := h1.cell 0
  have m2 := h2.cell 0
  have m3 := h3.cell 0
  have HC := Lib.hid (hD.rename hM hB hF F P hS hP)
  clear hD hF h1 h2 h3
  go_enter Tryz.func108, Tryz.ntmps108
  go_wp2_with fail
  refine HC.out.mono ?_
  rintro e w1 ⟨v, R1, rfl, hk⟩
  go_wp2_with fail
  go_ret
  exact ⟨v, R1, rfl, hk⟩
/-- What the failures' variables hold, and their blocks. -/
structure Env5 (B0 : Nat) (a : Nat → Addr) (w : World) : Prop where
  f : Fails B0 a w
  s : Sents B0 a w
theorem Env5.below {w w' : World} (h : Env5 B0 a w) (hb : Below B0 w w') : Env5 B0 a w' := ⟨h.f.below hb, h.s.below hb⟩
theorem Env5.out {R R' : Nat → Nat} {w w' : World} {M' : Nat} (h : Env5 B0 a w) (ho : Out R R' w w') (hB : B0 ≤ w.heap.size) (hD : Dk B0 M' w R p d) : Env5 B0 a w' := h.below (ho.below hB hD.low)
/-- errors.Is(err, api.FailMissing). -/
theorem is_missing {w : World} {k : Nat} {v : Value} (hv : ErrW a w R k v) (hk : k ≤ 7) (hs : Sents B0 a w) (ha : Apart a) :
    Calls Tryz.prog 87 #[v, .iface 306 (.pointer (some (a 4)))] w fun e w' => e = .returned (.bool (decide (k = 4))) ∧ w = w' := by
  cases k with
  | zero =>
    obtain rfl : v = .nilIface := hv
    exact is_nil_calls 4 w
  | succ k =>
    obtain ⟨q, op, path, rfl, h1, h2⟩ := hv
    exact is_calls q (k + 1) 4 op path w h1 hs ha (by omega) hk (by omega) (by omega)
theorem putL_stop {F : Txt} {f : Ds → Nat × Ds} {l : List (Ds → Nat × Ds)} {r : Nat × Ds} (h : r.1 ≠ 0) : putL F (f :: l) r = (r.1, (removeD r.2 F).2) := by rw [putL, if_neg h]
theorem putL_on {F : Txt} {f : Ds → Nat × Ds} {l : List (Ds → Nat × Ds)} {r : Nat × Ds} (h : r.1 = 0) : putL F (f :: l) r = putL F l (f r.2) := by rw [putL, if_pos h]
/-- What Put keeps: its arguments' variables and the name of the fresh file. -/
structure PutB (b p : Nat) (P T F : ByteArray) (w : World) (R : Nat → Nat) : Prop where
  bd : Blk w b 29 #[.pointer (some ⟨p, 0, none⟩)]
  bp : Blk w (b + 1) 9 #[.string P]
  bt : Blk w (b + 2) 9 #[.string T]
  bf : Blk w (b + 3) 9 #[.string F]
  rd : R b = 0
  rp : R (b + 1) = 0
  rt : R (b + 2) = 0
  rf : R (b + 3) = 0
theorem PutB.out {b : Nat} {P T F : ByteArray} {w w' : World} {R R' : Nat → Nat} (h : PutB b p P T F w R) (ho : Out R R' w w') : PutB b p P T F w' R' :=
  ⟨ho.blk h.bd h.rd, ho.blk h.bp h.rp, ho.blk h.bt h.rt, ho.blk h.bf h.rf, ho.old _ h.bd.lt h.rd, ho.old _ h.bp.lt h.rp, ho.old _ h.bt.lt h.rt, ho.old _ h.bf.lt h.rf⟩
def putF (b p i : Nat) : Value :=
  #[.func (.func 105) #[] #[.pointer (some ⟨b, 0, none⟩), .pointer (some ⟨b + 3, 0, none⟩)], .func (.func 106) #[] #[.pointer (some ⟨b, 0, none⟩), .pointer (some ⟨b + 3, 0, none⟩), .pointer (some ⟨b + 2, 0, none⟩)],
    .func (.func 107) #[] #[.pointer (some ⟨b, 0, none⟩), .pointer (some ⟨b + 3, 0, none⟩)], .func (.func 108) #[] #[.pointer (some ⟨b, 0, none⟩), .pointer (some ⟨b + 3, 0, none⟩), .pointer (some ⟨b + 1, 0, none⟩)],
    .func (.func 75) #[.pointer (some ⟨p, 0, none⟩)] #[]].getD i undef
def putRow (b p : Nat) : Array Value := #[putF b p 0, putF b p 1, putF b p 2, putF b p 3, putF b p 4]
def putSteps (F P T : Txt) : List (Ds → Nat × Ds) := [(createD · F), (appendD · F T), (syncD · F), (renameD · F P), syncNamesD]
def putM (M t i : Nat) : Nat := M + 1 + i + (if i < 2 then 0 else t)
/-- Put at the head of its loop. -/
structure PutI (B0 M p : Nat) (a : Nat → Addr) (R : Nat → Nat) (w : World) (b g : Nat) (P T F : ByteArray) (res : Nat × Ds) (i : Nat) (v : Value) (R' : Nat → Nat) (r : Nat × Ds) (wr : World) : Prop where
  blks : PutB b p P T F wr R'
  row : Blk wr g 159 (putRow b p)
  rr : R' g = 0
  err : ErrW a wr R' r.1 v
  dk : Dk B0 (putM M T.size i) wr R' p r.2
  out : Out R R' w wr
  env : Env5 B0 a wr
  left : putL F.data.toList ((putSteps F.data.toList P.data.toList T.data.toList).drop i) r = res
set_option maxRecDepth 100000 in
set_option maxHeartbeats 8000000 in
theorem putfile_calls (P T : ByteArray) (w : World) (hD : Dk B0 M w R p d) (hM : M + T.size + 8 ≤ 536870912) (hB : B0 ≤ w.heap.size) (hE : Env5 B0 a w) (hA : Apart a) (hP : P.size ≤ 1000000000) :
    Calls Tryz.prog 53 #[.pointer (some ⟨p, 0, none⟩), .string P, .string T] w (DkOut a B0 (M + T.size + 7) R p (putD d P.data.toList T.data.toList) w) := by
  obtain ⟨b, hb⟩ : ∃ b, w.heap.size = b := ⟨_, rfl⟩
  have HB := Lib.hid hb
  obtain ⟨F, hF⟩ : ∃ F : ByteArray, P ++ (⟨#[46, 110, 101, 119]⟩ : ByteArray) = F := ⟨_, rfl⟩
  have hFd : F.data.toList = P.data.toList ++ dotNew := by rw [← hF]; simp [dotNew]
  have hFs : F.size ≤ 1073741824 := by rw [← hF, ByteArray.size_append]; show P.size + 4 ≤ _; omega
  obtain ⟨W, hW⟩ : ∃ W, (((w.alloc (.cells #[.pointer (some ⟨p, 0, none⟩)] 29)).alloc (.cells #[.string P] 9)).alloc (.cells #[.string T] 9)).alloc (.cells #[.string F] 9) = W := ⟨_, rfl⟩
  have hbl : Below w.heap.size w W := by rw [← hW]; exact ((((Below.refl _ _).alloc (Nat.le_refl _) _).alloc (by simp) _).alloc (by simp; omega) _).alloc (by simp; omega) _
  have HPB : Hid (PutB b p P T F W R) := Lib.hid (by
    rw [← hW, ← hb]
    exact ⟨(((Blk.new _ _ _).alloc _).alloc _).alloc _, ((Blk.newAt (by simp)).alloc _).alloc _, (Blk.newAt (by simp)).alloc _, Blk.newAt (by simp), hD.new (by omega), hD.new (by omega), hD.new (by omega), hD.new (by omega)⟩)
  have HD := Lib.hid (hD.below hbl)
  have HE := Lib.hid (hE.below (hbl.mono hB))
  have HO : Hid (Out R R w W) := Lib.hid (Out.of_below hbl)
  have HBW : Hid (B0 ≤ W.heap.size) := Lib.hid (Nat.le_trans hB hbl.size)
  have HA := Lib.hid hA
  have HB0 := Lib.hid hB
  have HW := Lib.hid hW
  have HFD := Lib.hid hFd
  clear hD hE hA hbl hb hW hFd hB
  go_enter Tryz.func53, Tryz.ntmps53
  go_upto_region 2 with fail
  have hW2 : (((w.alloc (.cells #[.pointer (some ⟨p, 0, none⟩)] 29)).alloc (.cells #[.string P] 9)).alloc (.cells #[.string T] 9)).alloc (.cells #[.string F] 9) = W := HW.out
  have hb2 : w.heap.size = b := HB.out
  rw [hW2, hb2]
  clear hW2 hb2
  have x0 : W.cell? ⟨b, 0, none⟩ = some (.pointer (some ⟨p, 0, none⟩)) := HPB.out.bd.cell 0
  have x3 : W.cell? ⟨b + 3, 0, none⟩ = some (.string F) := HPB.out.bf.cell 0
  go_wp2_with fail
  refine (HD.out.remove (by omega) HBW.out HE.out.f F hFs).mono ?_
  rintro e w1 ⟨v1, R1, rfl, hv1, hd1, ho1⟩
  have HB1 := Lib.hid (HPB.out.out ho1)
  have HO1 := Lib.hid (HO.out.trans ho1)
  have HE1 := Lib.hid (HE.out.out ho1 HBW.out HD.out)
  have HW1 : Hid (B0 ≤ w1.heap.size) := Lib.hid (Nat.le_trans HBW.out ho1.size)
  have HK := Lib.hid (removeD_le d F.data.toList)
  have HG : Hid (goneD d F.data.toList = (if (removeD d F.data.toList).1 = 4 then 0 else (removeD d F.data.toList).1, (removeD d F.data.toList).2)) := Lib.hid rfl
  obtain ⟨r1, hr1⟩ : ∃ r, removeD d F.data.toList = r := ⟨_, rfl⟩
  rw [hr1] at hv1 hd1 HK HG
  have HV1 := Lib.hid hv1
  have HD1 := Lib.hid hd1
  have m4 : w1.cell? ⟨0, 0, none⟩ = some (.iface 306 (.pointer (some (a 4)))) := (HE1.out.f 4 (by decide)).2
  clear hr1 hv1 hd1 ho1 x0 x3
  go_upto_if 18 with (go_at_call 87; refine (is_missing HV1.out HK.out HE1.out.s HA.out).mono ?_; rintro e w2 ⟨rfl, rfl⟩)
  go_cut [8] (fun s8 wz => ∃ v2 : Value, v2 = s8 ∧ wz = w1 ∧ ErrW a w1 R1 (if r1.1 = 4 then 0 else r1.1) v2)
  case first =>
    by_cases h4 : r1.1 = 4
    · have d4 : decide (r1.1 = 4) = true := decide_eq_true h4
      go_wp2_with fail
      go_meet
      refine ⟨_, rfl, rfl, ?_⟩
      rw [if_pos h4]
      rfl
    · have d4 : decide (r1.1 = 4) = false := decide_eq_false h4
      go_wp2_with fail
      go_meet
      refine ⟨_, rfl, rfl, ?_⟩
      rw [if_neg h4]
      exact HV1.out
  case rest =>
    obtain ⟨v2, rfl, rfl, hv2⟩ := hcut
    obtain ⟨r2, hr2⟩ : ∃ r : Nat × Ds, ((if r1.1 = 4 then 0 else r1.1, r1.2) : Nat × Ds) = r := ⟨_, rfl⟩
    have hv3 : ErrW a wc R1 r2.1 v2 := by rw [← hr2]; exact hv2
    have hd3 : Dk B0 (M + 1) wc R1 p r2.2 := by rw [← hr2]; exact HD1.out
    obtain ⟨res, hres⟩ : ∃ r, putD d P.data.toList T.data.toList = r := ⟨_, rfl⟩
    have hl3 : putL F.data.toList (putSteps F.data.toList P.data.toList T.data.toList) r2 = res := by
      rw [← hres, ← hr2, ← HG.out]
      unfold putD putSteps
      rw [← HFD.out]
    have HRES := Lib.hid hres
    have HL3 := Lib.hid hl3
    have HV3 := Lib.hid hv3
    have HD3 := Lib.hid hd3
    clear hr2 hv2 hv3 hd3 hl3 hres m4
    obtain ⟨w1, rfl⟩ : ∃ x, x = wc := ⟨_, rfl⟩
    have x0 : w1.cell? ⟨b, 0, none⟩ = some (.pointer (some ⟨p, 0, none⟩)) := HB1.out.bd.cell 0
    go_upto_region 6 with fail
    obtain ⟨g, hg⟩ : ∃ g, w1.heap.size = g := ⟨_, rfl⟩
    obtain ⟨w2, hw2⟩ : ∃ x, w1.alloc (.cells (putRow b p) 159) = x := ⟨_, rfl⟩
    have hb2 : Below w1.heap.size w1 w2 := by rw [← hw2]; exact (Below.refl _ _).alloc (Nat.le_refl _) _
    have HI : Hid (PutI B0 M p a R w b g P T F res 0 v2 R1 r2 w2) := Lib.hid (by
      have ho := Out.of_below (R := R1) hb2
      refine ⟨HB1.out.out ho, ?_, ?_, HV3.out.out ho, ?_, HO1.out.trans ho, HE1.out.below (hb2.mono HW1.out), HL3.out⟩
      · rw [← hw2, ← hg]; exact Blk.new _ _ _
      · rw [← hg]; exact HD3.out.new (Nat.le_refl _)
      · exact (HD3.out.below hb2))
    have HBG : Hid (B0 ≤ w2.heap.size) := Lib.hid (Nat.le_trans HW1.out hb2.size)
    have hrow : (Obj.cells #[.func (.func 105) #[] #[.pointer (some ⟨b, 0, none⟩), .pointer (some ⟨b + 1 + 1 + 1, 0, none⟩)], .func (.func 106) #[] #[.pointer (some ⟨b, 0, none⟩), .pointer (some ⟨b + 1 + 1 + 1, 0, none⟩), .pointer (some ⟨b + 1 + 1, 0, none⟩)],
      .func (.func 107) #[] #[.pointer (some ⟨b, 0, none⟩), .pointer (some ⟨b + 1 + 1 + 1, 0, none⟩)], .func (.func 108) #[] #[.pointer (some ⟨b, 0, none⟩), .pointer (some ⟨b + 1 + 1 + 1, 0, none⟩), .pointer (some ⟨b + 1, 0, none⟩)],
      .func (.func 75) #[.pointer (some ⟨p, 0, none⟩)] #[]] 159 : Obj) = .cells (putRow b p) 159 := rfl
    rw [hrow, hw2, hg]
    clear hrow hw2 hg hb2 x0
    go_loopg [8, 27] 5 (fun gh s8 s27 wr => ∃ (i : Nat) (R' : Nat → Nat) (r : Nat × Ds) (v : Value), i + gh = 5 ∧ v = s8 ∧ s27 = .int .i64 (i : Int) ∧ PutI B0 M p a R w b g P T F res i v R' r wr)
    case atStart => exact ⟨0, R1, r2, _, rfl, rfl, rfl, HI.out⟩
    case round =>
      obtain ⟨i, R', r, v, hig, rfl, rfl, hi⟩ := hrel
      by_cases h5 : i < 5
      · have el : decide ((i : Int) < 5) = true := by simp; omega
        rcases (by omega : i = 0 ∨ i = 1 ∨ i = 2 ∨ i = 3 ∨ i = 4) with rfl | rfl | rfl | rfl | rfl
        · -- round 0
          have hBr : B0 ≤ wr.heap.size := Nat.le_trans HB0.out hi.out.size
          have m0 : wr.cell? ⟨g, 0, none⟩ = some (putF b p 0) := hi.row.cell 0
          have HC := Lib.hid (put1_calls b (b + 3) F wr hi.dk (by show M + 1 + 0 + 0 ≤ _; omega) hBr hi.env.f hFs hi.blks.bd hi.blks.bf)
          have HX := Lib.hid (hi.dk.remove (a := a) (by show M + 1 + 0 + 0 ≤ _; omega) hBr hi.env.f F hFs)
          have x0 : wr.cell? ⟨b, 0, none⟩ = some (.pointer (some ⟨p, 0, none⟩)) := hi.blks.bd.cell 0
          have x3 : wr.cell? ⟨b + 3, 0, none⟩ = some (.string F) := hi.blks.bf.cell 0
          have HI2 := Lib.hid hi
          have HBR := Lib.hid hBr
          unfold putF at m0
          simp at m0
          clear hi hBr
          rcases Nat.eq_zero_or_pos r.1 with hz | hz
          · obtain rfl := HI2.out.err.nil hz
            have HZ := Lib.hid hz
            clear hz
            go_wp2_with fail
            refine HC.out.mono ?_
            rintro e w3 ⟨v3, R3, rfl, hv3, hd3, ho3⟩
            have HI3 : Hid (PutI B0 M p a R w b g P T F res 1 v3 R3 (createD r.2 F.data.toList) w3) := Lib.hid
              ⟨HI2.out.blks.out ho3, ho3.blk HI2.out.row HI2.out.rr, ho3.old _ HI2.out.row.lt HI2.out.rr, hv3, hd3.more (by show _ ≤ M + 1 + 1 + 0; show M + 1 + 0 + 0 + 1 ≤ _; omega), HI2.out.out.trans ho3, HI2.out.env.out ho3 HBR.out HI2.out.dk, by
                rw [← HI2.out.left]
                exact (putL_on (f := (createD · F.data.toList)) (l := (putSteps F.data.toList P.data.toList T.data.toList).drop 1) HZ.out).symm⟩
            clear hv3 hd3 ho3 m0 x0 x3
            go_wp2_with fail
            go_roundg (gk - 1)
            case measure => omega
            case rel => exact ⟨1, R3, _, _, by omega, rfl, by go_num, HI3.out⟩
          · obtain ⟨q, op, path, rfl, hq1, hq2⟩ := HI2.out.err.some_ (by omega)
            have HZ := Lib.hid hz
            clear hz hq1 hq2
            go_wp2_with fail
            refine HX.out.mono ?_
            rintro e w3 ⟨v3, R3, rfl, hv3, hd3, ho3⟩
            have HO3 := Lib.hid ho3
            have HD3 := Lib.hid hd3
            clear hv3 hd3 ho3 m0 x0 x3
            go_wp2_with fail
            go_ret
            have hres : res = (r.1, (removeD r.2 F.data.toList).2) := by
              rw [← HI2.out.left]
              exact putL_stop (by have := HZ.out; omega)
            rw [HRES.out, hres]
            exact ⟨_, R3, rfl, HI2.out.err.out HO3.out, HD3.out.more (by show M + 1 + 0 + 0 + 1 ≤ _; omega), HI2.out.out.trans HO3.out⟩
        · -- round 1
          have hBr : B0 ≤ wr.heap.size := Nat.le_trans HB0.out hi.out.size
          have m0 : wr.cell? ⟨g, 1, none⟩ = some (putF b p 1) := hi.row.cell 1
          have HC := Lib.hid (put2_calls b (b + 3) (b + 2) F T wr hi.dk (by show M + 1 + 1 + 0 ≤ _; omega) hBr hi.env.f hFs (by omega) hi.blks.bd hi.blks.bf hi.blks.bt)
          have HX := Lib.hid (hi.dk.remove (a := a) (by show M + 1 + 1 + 0 ≤ _; omega) hBr hi.env.f F hFs)
          have x0 : wr.cell? ⟨b, 0, none⟩ = some (.pointer (some ⟨p, 0, none⟩)) := hi.blks.bd.cell 0
          have x3 : wr.cell? ⟨b + 3, 0, none⟩ = some (.string F) := hi.blks.bf.cell 0
          have HI2 := Lib.hid hi
          have HBR := Lib.hid hBr
          unfold putF at m0
          simp at m0
          clear hi hBr
          rcases Nat.eq_zero_or_pos r.1 with hz | hz
          · obtain rfl := HI2.out.err.nil hz
            have HZ := Lib.hid hz
            clear hz
            go_wp2_with fail
            refine HC.out.mono ?_
            rintro e w3 ⟨v3, R3, rfl, hv3, hd3, ho3⟩
            have HI3 : Hid (PutI B0 M p a R w b g P T F res 2 v3 R3 (appendD r.2 F.data.toList T.data.toList) w3) := Lib.hid
              ⟨HI2.out.blks.out ho3, ho3.blk HI2.out.row HI2.out.rr, ho3.old _ HI2.out.row.lt HI2.out.rr, hv3, hd3.more (by show _ ≤ M + 1 + 2 + T.size; show M + 1 + 1 + 0 + T.size + 1 ≤ _; omega), HI2.out.out.trans ho3, HI2.out.env.out ho3 HBR.out HI2.out.dk, by
                rw [← HI2.out.left]
                exact (putL_on (f := (appendD · F.data.toList T.data.toList)) (l := (putSteps F.data.toList P.data.toList T.data.toList).drop 2) HZ.out).symm⟩
            clear hv3 hd3 ho3 m0 x0 x3
            go_wp2_with fail
            go_roundg (gk - 1)
            case measure => omega
            case rel => exact ⟨2, R3, _, _, by omega, rfl, by go_num, HI3.out⟩
          · obtain ⟨q, op, path, rfl, hq1, hq2⟩ := HI2.out.err.some_ (by omega)
            have HZ := Lib.hid hz
            clear hz hq1 hq2
            go_wp2_with fail
            refine HX.out.mono ?_
            rintro e w3 ⟨v3, R3, rfl, hv3, hd3, ho3⟩
            have HO3 := Lib.hid ho3
            have HD3 := Lib.hid hd3
            clear hv3 hd3 ho3 m0 x0 x3
            go_wp2_with fail
            go_ret
            have hres : res = (r.1, (removeD r.2 F.data.toList).2) := by
              rw [← HI2.out.left]
              exact putL_stop (by have := HZ.out; omega)
            rw [HRES.out, hres]
            exact ⟨_, R3, rfl, HI2.out.err.out HO3.out, HD3.out.more (by show M + 1 + 1 + 0 + 1 ≤ _; omega), HI2.out.out.trans HO3.out⟩
        · -- round 2
          have hBr : B0 ≤ wr.heap.size := Nat.le_trans HB0.out hi.out.size
          have m0 : wr.cell? ⟨g, 2, none⟩ = some (putF b p 2) := hi.row.cell 2
          have HC := Lib.hid (put3_calls b (b + 3) F wr hi.dk (by show M + 1 + 2 + T.size ≤ _; omega) hBr hi.env.f hFs hi.blks.bd hi.blks.bf)
          have HX := Lib.hid (hi.dk.remove (a := a) (by show M + 1 + 2 + T.size ≤ _; omega) hBr hi.env.f F hFs)
          have x0 : wr.cell? ⟨b, 0, none⟩ = some (.pointer (some ⟨p, 0, none⟩)) := hi.blks.bd.cell 0
          have x3 : wr.cell? ⟨b + 3, 0, none⟩ = some (.string F) := hi.blks.bf.cell 0
          have HI2 := Lib.hid hi
          have HBR := Lib.hid hBr
          unfold putF at m0
          simp at m0
          clear hi hBr
          rcases Nat.eq_zero_or_pos r.1 with hz | hz
          · obtain rfl := HI2.out.err.nil hz
            have HZ := Lib.hid hz
            clear hz
            go_wp2_with fail
            refine HC.out.mono ?_
            rintro e w3 ⟨v3, R3, rfl, hv3, hd3, ho3⟩
            have HI3 : Hid (PutI B0 M p a R w b g P T F res 3 v3 R3 (syncD r.2 F.data.toList) w3) := Lib.hid
              ⟨HI2.out.blks.out ho3, ho3.blk HI2.out.row HI2.out.rr, ho3.old _ HI2.out.row.lt HI2.out.rr, hv3, hd3.more (by show _ ≤ M + 1 + 3 + T.size; show M + 1 + 2 + T.size + 1 ≤ _; omega), HI2.out.out.trans ho3, HI2.out.env.out ho3 HBR.out HI2.out.dk, by
                rw [← HI2.out.left]
                exact (putL_on (f := (syncD · F.data.toList)) (l := (putSteps F.data.toList P.data.toList T.data.toList).drop 3) HZ.out).symm⟩
            clear hv3 hd3 ho3 m0 x0 x3
            go_wp2_with fail
            go_roundg (gk - 1)
            case measure => omega
            case rel => exact ⟨3, R3, _, _, by omega, rfl, by go_num, HI3.out⟩
          · obtain ⟨q, op, path, rfl, hq1, hq2⟩ := HI2.out.err.some_ (by omega)
            have HZ := Lib.hid hz
            clear hz hq1 hq2
            go_wp2_with fail
            refine HX.out.mono ?_
            rintro e w3 ⟨v3, R3, rfl, hv3, hd3, ho3⟩
            have HO3 := Lib.hid ho3
            have HD3 := Lib.hid hd3
            clear hv3 hd3 ho3 m0 x0 x3
            go_wp2_with fail
            go_ret
            have hres : res = (r.1, (removeD r.2 F.data.toList).2) := by
              rw [← HI2.out.left]
              exact putL_stop (by have := HZ.out; omega)
            rw [HRES.out, hres]
            exact ⟨_, R3, rfl, HI2.out.err.out HO3.out, HD3.out.more (by show M + 1 + 2 + T.size + 1 ≤ _; omega), HI2.out.out.trans HO3.out⟩
        · -- round 3
          have hBr : B0 ≤ wr.heap.size := Nat.le_trans HB0.out hi.out.size
          have m0 : wr.cell? ⟨g, 3, none⟩ = some (putF b p 3) := hi.row.cell 3
          have HC := Lib.hid (put4_calls b (b + 3) (b + 1) F P wr hi.dk (by show M + 1 + 3 + T.size ≤ _; omega) hBr hi.env.f hFs (by omega) hi.blks.bd hi.blks.bf hi.blks.bp)
          have HX := Lib.hid (hi.dk.remove (a := a) (by show M + 1 + 3 + T.size ≤ _; omega) hBr hi.env.f F hFs)
          have x0 : wr.cell? ⟨b, 0, none⟩ = some (.pointer (some ⟨p, 0, none⟩)) := hi.blks.bd.cell 0
          have x3 : wr.cell? ⟨b + 3, 0, none⟩ = some (.string F) := hi.blks.bf.cell 0
          have HI2 := Lib.hid hi
          have HBR := Lib.hid hBr
          unfold putF at m0
          simp at m0
          clear hi hBr
          rcases Nat.eq_zero_or_pos r.1 with hz | hz
          · obtain rfl := HI2.out.err.nil hz
            have HZ := Lib.hid hz
            clear hz
            go_wp2_with fail
            refine HC.out.mono ?_
            rintro e w3 ⟨v3, R3, rfl, hv3, hd3, ho3⟩
            have HI3 : Hid (PutI B0 M p a R w b g P T F res 4 v3 R3 (renameD r.2 F.data.toList P.data.toList) w3) := Lib.hid
              ⟨HI2.out.blks.out ho3, ho3.blk HI2.out.row HI2.out.rr, ho3.old _ HI2.out.row.lt HI2.out.rr, hv3, hd3.more (by show _ ≤ M + 1 + 4 + T.size; show M + 1 + 3 + T.size + 1 ≤ _; omega), HI2.out.out.trans ho3, HI2.out.env.out ho3 HBR.out HI2.out.dk, by
                rw [← HI2.out.left]
                exact (putL_on (f := (renameD · F.data.toList P.data.toList)) (l := (putSteps F.data.toList P.data.toList T.data.toList).drop 4) HZ.out).symm⟩
            clear hv3 hd3 ho3 m0 x0 x3
            go_wp2_with fail
            go_roundg (gk - 1)
            case measure => omega
            case rel => exact ⟨4, R3, _, _, by omega, rfl, by go_num, HI3.out⟩
          · obtain ⟨q, op, path, rfl, hq1, hq2⟩ := HI2.out.err.some_ (by omega)
            have HZ := Lib.hid hz
            clear hz hq1 hq2
            go_wp2_with fail
            refine HX.out.mono ?_
            rintro e w3 ⟨v3, R3, rfl, hv3, hd3, ho3⟩
            have HO3 := Lib.hid ho3
            have HD3 := Lib.hid hd3
            clear hv3 hd3 ho3 m0 x0 x3
            go_wp2_with fail
            go_ret
            have hres : res = (r.1, (removeD r.2 F.data.toList).2) := by
              rw [← HI2.out.left]
              exact putL_stop (by have := HZ.out; omega)
            rw [HRES.out, hres]
            exact ⟨_, R3, rfl, HI2.out.err.out HO3.out, HD3.out.more (by show M + 1 + 3 + T.size + 1 ≤ _; omega), HI2.out.out.trans HO3.out⟩
        · -- round 4
          have hBr : B0 ≤ wr.heap.size := Nat.le_trans HB0.out hi.out.size
          have m0 : wr.cell? ⟨g, 4, none⟩ = some (putF b p 4) := hi.row.cell 4
          have HC := Lib.hid (hi.dk.syncNames (by show M + 1 + 4 + T.size ≤ _; omega) hBr hi.env.f)
          have HX := Lib.hid (hi.dk.remove (a := a) (by show M + 1 + 4 + T.size ≤ _; omega) hBr hi.env.f F hFs)
          have x0 : wr.cell? ⟨b, 0, none⟩ = some (.pointer (some ⟨p, 0, none⟩)) := hi.blks.bd.cell 0
          have x3 : wr.cell? ⟨b + 3, 0, none⟩ = some (.string F) := hi.blks.bf.cell 0
          have HI2 := Lib.hid hi
          have HBR := Lib.hid hBr
          unfold putF at m0
          simp at m0
          clear hi hBr
          rcases Nat.eq_zero_or_pos r.1 with hz | hz
          · obtain rfl := HI2.out.err.nil hz
            have HZ := Lib.hid hz
            clear hz
            go_wp2_with fail
            refine HC.out.mono ?_
            rintro e w3 ⟨v3, R3, rfl, hv3, hd3, ho3⟩
            have HI3 : Hid (PutI B0 M p a R w b g P T F res 5 v3 R3 (syncNamesD r.2) w3) := Lib.hid
              ⟨HI2.out.blks.out ho3, ho3.blk HI2.out.row HI2.out.rr, ho3.old _ HI2.out.row.lt HI2.out.rr, hv3, hd3.more (by show _ ≤ M + 1 + 5 + T.size; show M + 1 + 4 + T.size + 1 ≤ _; omega), HI2.out.out.trans ho3, HI2.out.env.out ho3 HBR.out HI2.out.dk, by
                rw [← HI2.out.left]
                exact (putL_on (f := syncNamesD) (l := (putSteps F.data.toList P.data.toList T.data.toList).drop 5) HZ.out).symm⟩
            clear hv3 hd3 ho3 m0 x0 x3
            go_wp2_with fail
            go_roundg (gk - 1)
            case measure => omega
            case rel => exact ⟨5, R3, _, _, by omega, rfl, by go_num, HI3.out⟩
          · obtain ⟨q, op, path, rfl, hq1, hq2⟩ := HI2.out.err.some_ (by omega)
            have HZ := Lib.hid hz
            clear hz hq1 hq2
            go_wp2_with fail
            refine HX.out.mono ?_
            rintro e w3 ⟨v3, R3, rfl, hv3, hd3, ho3⟩
            have HO3 := Lib.hid ho3
            have HD3 := Lib.hid hd3
            clear hv3 hd3 ho3 m0 x0 x3
            go_wp2_with fail
            go_ret
            have hres : res = (r.1, (removeD r.2 F.data.toList).2) := by
              rw [← HI2.out.left]
              exact putL_stop (by have := HZ.out; omega)
            rw [HRES.out, hres]
            exact ⟨_, R3, rfl, HI2.out.err.out HO3.out, HD3.out.more (by show M + 1 + 4 + T.size + 1 ≤ _; omega), HI2.out.out.trans HO3.out⟩

      · have el : decide ((i : Int) < 5) = false := by simp; omega
        obtain rfl : i = 5 := by omega
        have HI2 := Lib.hid hi
        clear hi
        go_wp2_with fail
        go_ret
        have hres : res = r := by
          rw [← HI2.out.left]
          rfl
        rw [HRES.out, hres]
        exact ⟨_, R', rfl, HI2.out.err, HI2.out.dk.more (by show M + 1 + 5 + T.size ≤ _; omega), HI2.out.out⟩
end
end Go.Proofs.YtfpgbhimgfdddaaGreatDoor
