/- Merged: DskNil, DskTwo, DskJoin. -/
import Derived.Test.YtdaidbnbfjgjeaaGreatDoorDsa23
import Derived.Test.YtdaidbnbfjgjeaaGreatDoorDsa29
set_option linter.unusedVariables false
set_option linter.unusedSimpArgs false
/-! ## DskNil -/
/- The walks of layer 3 (disk): the calls at a nil disk. -/
namespace Go.Proofs.YtdaidbnbfjgjeaaGreatDoor
open Go.RowKit Go.Shelf Go.Maps Go.Sort
attribute [local go_sem ↓] Go.wp_at_zero Go.wp_at_succ
attribute [local go_sem] Later.cell Later.frozen

section
variable {B0 : Nat} {a : Nat → Addr}
def NilOut (a : Nat → Addr) (op s : ByteArray) (w : World) (e : Ending) (w' : World) : Prop :=
  ∃ v, e = .returned v ∧ ErrV a w' op s (0 + 1) v ∧ Below w.heap.size w w'
def NilOut2 (a : Nat → Addr) (u : Value) (op s : ByteArray) (w : World) (e : Ending) (w' : World) : Prop :=
  ∃ v, e = .returned (.tuple #[u, v]) ∧ ErrV a w' op s (0 + 1) v ∧ Below w.heap.size w w'
theorem ready_nil (ok : Bool) (op s : ByteArray) (w : World) (hF : Fails B0 a w) :
    Calls Tryz.prog 28 #[.pointer none, .string op, .string s, .bool ok] w (NilOut a op s w) := by
  have f1 : _ = some (failV a 1) := (hF 1 (by decide)).2
  have hfl := fun k w => fail_calls (a := a) op s k w
  unfold failV at f1 hfl
  simp only [failG] at f1
  have HF := Lib.hid hfl
  clear hF hfl
  go_enter Tryz.func28, Tryz.ntmps28
  go_wp2_with fail
  refine (HF.out 0 w).mono ?_
  rintro e w1 ⟨v, rfl, hv, hb⟩
  have HV := Lib.hid hv
  clear hv
  go_wp2_with fail
  go_ret
  exact ⟨v, rfl, HV.out, hb⟩
theorem NilOut.then_ {op s : ByteArray} {w w1 w2 : World} {e : Ending} (hb : Below w.heap.size w w1) (h : NilOut a op s w1 e w2) : NilOut a op s w e w2 := by
  obtain ⟨v, h1, h2, h3⟩ := h
  exact ⟨v, h1, h2, Go.Proofs.YtdaidbnbfjgjeaaGreatDoor.then_ hb h3⟩
theorem file_nil (op S : ByteArray) (w : World) (hS : S.size ≤ 1073741824) (hB : B0 ≤ w.heap.size) (hF : Fails B0 a w) :
    Calls Tryz.prog 36 #[.pointer none, .string op, .string S] w (NilOut2 a (.pointer none) op S w) := by
  obtain ⟨rn, hrn⟩ : ∃ r, pathB S.data.toList = r := ⟨_, rfl⟩
  have HNM := Lib.hid (path_calls S rn hrn hS w)
  clear hrn
  go_enter Tryz.func36, Tryz.ntmps36
  go_wp2_with fail
  refine HNM.out.mono ?_
  rintro _ w2 ⟨rfl, hB2⟩
  have HRD := Lib.hid (ready_nil (B0 := B0) (a := a) rn op S w2 (hF.below (hB2.mono hB)))
  go_wp2_with fail
  refine HRD.out.mono ?_
  rintro _ w3 ⟨v, rfl, hv3, hb3⟩
  have HFIN := Lib.hid (show NilOut2 a (.pointer none) op S w (.returned (.tuple #[.pointer none, v])) w3 from ⟨v, rfl, hv3, then_ hB2 hb3⟩)
  obtain ⟨q4, rfl, _⟩ := hv3
  go_wp2_with fail
  go_ret2
  exact HFIN.out

-- PRINTED by gen_dsknil.py
set_option maxRecDepth 100000 in
set_option maxHeartbeats 2000000 in
theorem mkdir_nil (S : ByteArray) (w : World) (hS : S.size ≤ 1073741824) (hB : B0 ≤ w.heap.size) (hF : Fails B0 a w) :
    Calls Tryz.prog 11 #[.pointer none, .string S] w (NilOut a ⟨#[109, 107, 100, 105, 114]⟩ S w) := by
  obtain ⟨rn, hrn⟩ : ∃ r, nameB S.data.toList = r := ⟨_, rfl⟩
  have HNM := Lib.hid (fun w => name_calls S rn hrn hS w)
  clear hrn
  go_enter Tryz.func11, Tryz.ntmps11
  go_upto_region 1 with fail
  obtain ⟨w1, hw1⟩ : ∃ x, w.alloc (.cells #[.string S] 9) = x := ⟨_, rfl⟩
  have hb1 : Below w.heap.size w w1 := by rw [← hw1]; exact (Below.refl _ _).alloc (Nat.le_refl _) _
  have hq : Blk w1 w.heap.size 9 #[.string S] := by rw [← hw1]; exact Blk.new _ _ _
  rw [hw1]
  obtain ⟨q, hqq⟩ : ∃ q, w.heap.size = q := ⟨_, rfl⟩
  rw [hqq] at hq hB ⊢
  have HQ := Lib.hid hqq
  have q0 : _ = some (Value.string S) := hq.cell 0
  have hql := hq.lt
  clear hw1 hqq
  refine wp_region_later_tail 4 (by kernel_rfl) (by kernel_rfl) ?_
  simp only [List.take_succ_cons, List.take_zero, List.drop_succ_cons, List.drop_zero]
  repeat (go_big_quiet_step ((go_at_call 29; exact quiet_same _ (HNM.out _))))
  refine wpQuiet_nil ?_
  rintro w2 ⟨⟨_, hb2⟩, rfl⟩
  have hB2 := then_ hb1 hb2
  have hq2 := hq.below hb2 hq.lt
  have q0 : _ = some (Value.string S) := hq2.cell 0
  have HRD := Lib.hid (ready_nil (B0 := B0) (a := a) rn ⟨#[109, 107, 100, 105, 114]⟩ S w2 (hF.below (hB2.mono (by have := HQ.out; omega))))
  clear hq hql hb1 hb2
  go_wp2_with fail
  refine HRD.out.mono ?_
  rintro _ w3 ⟨v, rfl, hv3, hb3⟩
  have HFIN := Lib.hid (show NilOut a ⟨#[109, 107, 100, 105, 114]⟩ S w (.returned v) w3 from ⟨v, rfl, hv3, then_ hB2 hb3⟩)
  obtain ⟨q4, rfl, _⟩ := hv3
  clear q0 hq2
  go_wp2_with fail
  go_ret
  exact HFIN.out
set_option maxRecDepth 100000 in
set_option maxHeartbeats 2000000 in
theorem create_nil (S : ByteArray) (w : World) (hS : S.size ≤ 1073741824) (hB : B0 ≤ w.heap.size) (hF : Fails B0 a w) :
    Calls Tryz.prog 12 #[.pointer none, .string S] w (NilOut a ⟨#[99, 114, 101, 97, 116, 101]⟩ S w) := by
  obtain ⟨rn, hrn⟩ : ∃ r, pathB S.data.toList = r := ⟨_, rfl⟩
  have HNM := Lib.hid (fun w => path_calls S rn hrn hS w)
  clear hrn
  go_enter Tryz.func12, Tryz.ntmps12
  go_upto_region 1 with fail
  obtain ⟨w1, hw1⟩ : ∃ x, w.alloc (.cells #[.string S] 9) = x := ⟨_, rfl⟩
  have hb1 : Below w.heap.size w w1 := by rw [← hw1]; exact (Below.refl _ _).alloc (Nat.le_refl _) _
  have hq : Blk w1 w.heap.size 9 #[.string S] := by rw [← hw1]; exact Blk.new _ _ _
  rw [hw1]
  obtain ⟨q, hqq⟩ : ∃ q, w.heap.size = q := ⟨_, rfl⟩
  rw [hqq] at hq hB ⊢
  have HQ := Lib.hid hqq
  have q0 : _ = some (Value.string S) := hq.cell 0
  have hql := hq.lt
  clear hw1 hqq
  refine wp_region_later_tail 4 (by kernel_rfl) (by kernel_rfl) ?_
  simp only [List.take_succ_cons, List.take_zero, List.drop_succ_cons, List.drop_zero]
  repeat (go_big_quiet_step ((go_at_call 33; exact quiet_later _ (HNM.out _))))
  refine wpQuiet_nil ?_
  rintro w2 ⟨⟨_, hb2⟩, rfl⟩
  have hB2 := then_ hb1 hb2
  have hq2 := hq.below hb2 hq.lt
  have q0 : _ = some (Value.string S) := hq2.cell 0
  have HRD := Lib.hid (ready_nil (B0 := B0) (a := a) rn ⟨#[99, 114, 101, 97, 116, 101]⟩ S w2 (hF.below (hB2.mono (by have := HQ.out; omega))))
  clear hq hql hb1 hb2
  go_wp2_with fail
  refine HRD.out.mono ?_
  rintro _ w3 ⟨v, rfl, hv3, hb3⟩
  have HFIN := Lib.hid (show NilOut a ⟨#[99, 114, 101, 97, 116, 101]⟩ S w (.returned v) w3 from ⟨v, rfl, hv3, then_ hB2 hb3⟩)
  obtain ⟨q4, rfl, _⟩ := hv3
  clear q0 hq2
  go_wp2_with fail
  go_ret
  exact HFIN.out
set_option maxRecDepth 100000 in
set_option maxHeartbeats 2000000 in
theorem remove_nil (S : ByteArray) (w : World) (hS : S.size ≤ 1073741824) (hB : B0 ≤ w.heap.size) (hF : Fails B0 a w) :
    Calls Tryz.prog 59 #[.pointer none, .string S] w (NilOut a ⟨#[114, 101, 109, 111, 118, 101]⟩ S w) := by
  obtain ⟨rn, hrn⟩ : ∃ r, pathB S.data.toList = r := ⟨_, rfl⟩
  have HNM := Lib.hid (fun w => path_calls S rn hrn hS w)
  clear hrn
  go_enter Tryz.func59, Tryz.ntmps59
  go_upto_region 1 with fail
  obtain ⟨w1, hw1⟩ : ∃ x, w.alloc (.cells #[.string S] 9) = x := ⟨_, rfl⟩
  have hb1 : Below w.heap.size w w1 := by rw [← hw1]; exact (Below.refl _ _).alloc (Nat.le_refl _) _
  have hq : Blk w1 w.heap.size 9 #[.string S] := by rw [← hw1]; exact Blk.new _ _ _
  rw [hw1]
  obtain ⟨q, hqq⟩ : ∃ q, w.heap.size = q := ⟨_, rfl⟩
  rw [hqq] at hq hB ⊢
  have HQ := Lib.hid hqq
  have q0 : _ = some (Value.string S) := hq.cell 0
  have hql := hq.lt
  clear hw1 hqq
  refine wp_region_later_tail 4 (by kernel_rfl) (by kernel_rfl) ?_
  simp only [List.take_succ_cons, List.take_zero, List.drop_succ_cons, List.drop_zero]
  repeat (go_big_quiet_step ((go_at_call 33; exact quiet_later _ (HNM.out _))))
  refine wpQuiet_nil ?_
  rintro w2 ⟨⟨_, hb2⟩, rfl⟩
  have hB2 := then_ hb1 hb2
  have hq2 := hq.below hb2 hq.lt
  have q0 : _ = some (Value.string S) := hq2.cell 0
  have HRD := Lib.hid (ready_nil (B0 := B0) (a := a) rn ⟨#[114, 101, 109, 111, 118, 101]⟩ S w2 (hF.below (hB2.mono (by have := HQ.out; omega))))
  clear hq hql hb1 hb2
  go_wp2_with fail
  refine HRD.out.mono ?_
  rintro _ w3 ⟨v, rfl, hv3, hb3⟩
  have HFIN := Lib.hid (show NilOut a ⟨#[114, 101, 109, 111, 118, 101]⟩ S w (.returned v) w3 from ⟨v, rfl, hv3, then_ hB2 hb3⟩)
  obtain ⟨q4, rfl, _⟩ := hv3
  clear q0 hq2
  go_wp2_with fail
  go_ret
  exact HFIN.out
set_option maxHeartbeats 1000000 in
theorem append_nil (S : ByteArray) (Ao : Option Addr) (pn pc : Nat) (w : World) (hS : S.size ≤ 1073741824) (hB : B0 ≤ w.heap.size) (hF : Fails B0 a w) :
    Calls Tryz.prog 13 #[.pointer none, .string S, .slice Ao pn pc] w (NilOut a ⟨#[97, 112, 112, 101, 110, 100]⟩ S w) := by
  have HF := Lib.hid (file_nil (a := a) ⟨#[97, 112, 112, 101, 110, 100]⟩ S w hS hB hF)
  go_enter Tryz.func13, Tryz.ntmps13
  go_wp2_with fail
  refine HF.out.mono ?_
  rintro _ w3 ⟨v, rfl, hv3, hb3⟩
  have HFIN := Lib.hid (show NilOut a ⟨#[97, 112, 112, 101, 110, 100]⟩ S w (.returned v) w3 from ⟨v, rfl, hv3, hb3⟩)
  obtain ⟨q4, rfl, _⟩ := hv3
  go_wp2_with fail
  go_ret
  exact HFIN.out
set_option maxHeartbeats 1000000 in
theorem cut_nil (S : ByteArray) (n : Int) (w : World) (hS : S.size ≤ 1073741824) (hB : B0 ≤ w.heap.size) (hF : Fails B0 a w) :
    Calls Tryz.prog 53 #[.pointer none, .string S, .int .i64 n] w (NilOut a ⟨#[99, 117, 116]⟩ S w) := by
  have HF := Lib.hid (file_nil (a := a) ⟨#[99, 117, 116]⟩ S w hS hB hF)
  go_enter Tryz.func53, Tryz.ntmps53
  go_wp2_with fail
  refine HF.out.mono ?_
  rintro _ w3 ⟨v, rfl, hv3, hb3⟩
  have HFIN := Lib.hid (show NilOut a ⟨#[99, 117, 116]⟩ S w (.returned v) w3 from ⟨v, rfl, hv3, hb3⟩)
  obtain ⟨q4, rfl, _⟩ := hv3
  go_wp2_with fail
  go_ret
  exact HFIN.out
set_option maxHeartbeats 1000000 in
theorem sync_nil (S : ByteArray) (w : World) (hS : S.size ≤ 1073741824) (hB : B0 ≤ w.heap.size) (hF : Fails B0 a w) :
    Calls Tryz.prog 14 #[.pointer none, .string S] w (NilOut a ⟨#[115, 121, 110, 99]⟩ S w) := by
  have HF := Lib.hid (file_nil (a := a) ⟨#[115, 121, 110, 99]⟩ S w hS hB hF)
  go_enter Tryz.func14, Tryz.ntmps14
  go_wp2_with fail
  refine HF.out.mono ?_
  rintro _ w3 ⟨v, rfl, hv3, hb3⟩
  have HFIN := Lib.hid (show NilOut a ⟨#[115, 121, 110, 99]⟩ S w (.returned v) w3 from ⟨v, rfl, hv3, hb3⟩)
  obtain ⟨q4, rfl, _⟩ := hv3
  go_wp2_with fail
  go_ret
  exact HFIN.out
set_option maxHeartbeats 1000000 in
theorem flip_nil (S : ByteArray) (k : Int) (m : UInt8) (w : World) (hS : S.size ≤ 1073741824) (hB : B0 ≤ w.heap.size) (hF : Fails B0 a w) :
    Calls Tryz.prog 99 #[.pointer none, .string S, .int .i64 k, .int .u8 m.toNat] w (NilOut a ⟨#[102, 108, 105, 112]⟩ S w) := by
  have HF := Lib.hid (file_nil (a := a) ⟨#[102, 108, 105, 112]⟩ S w hS hB hF)
  go_enter Tryz.func99, Tryz.ntmps99
  go_wp2_with fail
  refine HF.out.mono ?_
  rintro _ w3 ⟨v, rfl, hv3, hb3⟩
  have HFIN := Lib.hid (show NilOut a ⟨#[102, 108, 105, 112]⟩ S w (.returned v) w3 from ⟨v, rfl, hv3, hb3⟩)
  obtain ⟨q4, rfl, _⟩ := hv3
  go_wp2_with fail
  go_ret
  exact HFIN.out
set_option maxHeartbeats 1000000 in
theorem read_nil (S : ByteArray) (k n : Int) (w : World) (hS : S.size ≤ 1073741824) (hB : B0 ≤ w.heap.size) (hF : Fails B0 a w) :
    Calls Tryz.prog 61 #[.pointer none, .string S, .int .i64 k, .int .i64 n] w (NilOut2 a (.string ⟨#[]⟩) ⟨#[114, 101, 97, 100]⟩ S w) := by
  have HF := Lib.hid (file_nil (a := a) ⟨#[114, 101, 97, 100]⟩ S w hS hB hF)
  go_enter Tryz.func61, Tryz.ntmps61
  go_wp2_with fail
  refine HF.out.mono ?_
  rintro _ w3 ⟨v, rfl, hv3, hb3⟩
  have HFIN := Lib.hid (show NilOut2 a (.string ⟨#[]⟩) ⟨#[114, 101, 97, 100]⟩ S w (.returned (.tuple #[.string ⟨#[]⟩, v])) w3 from ⟨v, rfl, hv3, hb3⟩)
  obtain ⟨q4, rfl, _⟩ := hv3
  go_wp2_with fail
  go_ret2
  exact HFIN.out
set_option maxHeartbeats 1000000 in
theorem all_nil (S : ByteArray) (w : World) (hS : S.size ≤ 1073741824) (hB : B0 ≤ w.heap.size) (hF : Fails B0 a w) :
    Calls Tryz.prog 17 #[.pointer none, .string S] w (NilOut2 a (.string ⟨#[]⟩) ⟨#[114, 101, 97, 100]⟩ S w) := by
  have HF := Lib.hid (file_nil (a := a) ⟨#[114, 101, 97, 100]⟩ S w hS hB hF)
  go_enter Tryz.func17, Tryz.ntmps17
  go_wp2_with fail
  refine HF.out.mono ?_
  rintro _ w3 ⟨v, rfl, hv3, hb3⟩
  have HFIN := Lib.hid (show NilOut2 a (.string ⟨#[]⟩) ⟨#[114, 101, 97, 100]⟩ S w (.returned (.tuple #[.string ⟨#[]⟩, v])) w3 from ⟨v, rfl, hv3, hb3⟩)
  obtain ⟨q4, rfl, _⟩ := hv3
  go_wp2_with fail
  go_ret2
  exact HFIN.out
set_option maxHeartbeats 1000000 in
theorem syncNames_nil (w : World) (hF : Fails B0 a w) :
    Calls Tryz.prog 15 #[.pointer none] w (NilOut a ⟨#[110, 97, 109, 101, 115]⟩ ⟨#[]⟩ w) := by
  have HF := Lib.hid (ready_nil (a := a) true ⟨#[110, 97, 109, 101, 115]⟩ ⟨#[]⟩ w hF)
  go_enter Tryz.func15, Tryz.ntmps15
  go_wp2_with fail
  refine HF.out.mono ?_
  rintro _ w3 ⟨v, rfl, hv3, hb3⟩
  have HFIN := Lib.hid (show NilOut a ⟨#[110, 97, 109, 101, 115]⟩ ⟨#[]⟩ w (.returned v) w3 from ⟨v, rfl, hv3, hb3⟩)
  obtain ⟨q4, rfl, _⟩ := hv3
  go_wp2_with fail
  go_ret
  exact HFIN.out
theorem crash_nil (n : Int) (w : World) :
    Calls Tryz.prog 97 #[.pointer none, .int .i64 n] w fun e w' => e = .returned (.tuple #[]) ∧ w = w' := by
  go_enter Tryz.func97, Tryz.ntmps97
  go_wp2_with fail
  go_end0
  exact ⟨rfl, rfl⟩
theorem restart_nil (n : Int) (Ad : Option Addr) (nd cd : Nat) (z : Bool) (w : World) :
    Calls Tryz.prog 16 #[.pointer none, .int .i64 n, .slice Ad nd cd, .bool z] w fun e w' => e = .returned (.tuple #[]) ∧ w = w' := by
  go_enter Tryz.func16, Tryz.ntmps16
  go_wp2_with fail
  (try simp only [Exit.inBlock, Exit.then]); refine bodyPost_ret (results_none rfl _ _ _) rfl ?_
  exact ⟨rfl, rfl⟩
set_option maxHeartbeats 1000000 in
theorem used_nil (w : World) :
    Calls Tryz.prog 24 #[.pointer none] w fun e w' => e = .returned (.int .i64 0) ∧ w = w' := by
  have HOF := Lib.hid (off_nil_calls w)
  go_enter Tryz.func24, Tryz.ntmps24
  go_wp2_with fail
  refine HOF.out.mono ?_
  rintro _ w1 ⟨rfl, rfl⟩
  go_wp2_with fail
  go_ret
  exact ⟨rfl, rfl⟩
end
end Go.Proofs.YtdaidbnbfjgjeaaGreatDoor

/-! ## DskTwo -/
/- Layer 3's law: the code's disk and the document's, side by side. -/
namespace Go.Proofs.YtdaidbnbfjgjeaaGreatDoor
open Go.RowKit Go.Shelf Go.Maps Go.Sort

/-- What lies below all disks: the failures. -/
structure Env (B0 : Nat) (a : Nat → Addr) (w : World) : Prop where
  f : Fails B0 a w
  g : Fail6 B0 a w
  s : Sents B0 a w
theorem Env.below {B0 : Nat} {a : Nat → Addr} {w w' : World} (h : Env B0 a w) (hb : Below B0 w w') : Env B0 a w' := ⟨h.f.below hb, h.g.below hb, h.s.below hb⟩
def mix (R S : Nat → Nat) : Nat → Nat := fun k => R k + S k
section
variable {B0 M : Nat} {a : Nat → Addr} {R R' S S' : Nat → Nat} {A A' : Adr} {B B' : RAdr} {d d' : Ds} {w w' w'' : World}
theorem Own.mixL (h : Own R R' w w') : Own (mix R S) (mix R' S) w w' :=
  ⟨h.os, h.tape, h.output, h.size, fun k hk h0 => h.block k hk (by unfold mix at h0; omega), fun k hk => by unfold mix; rw [h.old k hk]⟩
theorem Own.mixR (h : Own S S' w w') : Own (mix R S) (mix R S') w w' :=
  ⟨h.os, h.tape, h.output, h.size, fun k hk h0 => h.block k hk (by unfold mix at h0; omega), fun k hk => by unfold mix; rw [h.old k hk]⟩
structure Two (B0 : Nat) (w : World) (R S : Nat → Nat) (A : Adr) (B : RAdr) (d : Ds) : Prop where
  c : CD B0 w R A d
  r : RD B0 w S B d
  dis : ∀ k, R k ≠ 0 → S k = 0
theorem Two.below (h : Two B0 w R S A B d) (hb : Below w.heap.size w w') : Two B0 w' R S A B d := ⟨h.c.below hb, h.r.below hb, h.dis⟩
theorem Two.low (h : Two B0 w R S A B d) : ∀ k, k < B0 → mix R S k = 0 := fun k hk => by unfold mix; rw [h.c.low k hk, h.r.low k hk]
theorem Two.new (h : Two B0 w R S A B d) {g : Nat} (hg : w.heap.size ≤ g) : mix R S g = 0 := by unfold mix; rw [h.c.inw.new hg, h.r.inw.new hg]
/-- Another owner's work. -/
theorem Two.apart {Q Q' : Nat → Nat} (h : Two B0 w R S A B d) (ho : Own Q Q' w w') (hd : ∀ k, mix R S k ≠ 0 → Q k = 0) : Two B0 w' R S A B d :=
  ⟨h.c.apart ho fun k hk => hd k (by unfold mix; omega), h.r.apart ho fun k hk => hd k (by unfold mix; omega), h.dis⟩
theorem Two.dis' (h : Two B0 w R S A B d) : ∀ k, S k ≠ 0 → R k = 0 := fun k hk => by
  apply Classical.byContradiction
  intro h0
  exact hk (h.dis k h0)
/-- The code's call is over, the document's not yet. -/
structure Half (B0 : Nat) (a : Nat → Addr) (R : Nat → Nat) (A : Adr) (r : Nat × Ds) (op s : ByteArray) (w : World) (v : Value) (w' : World) : Prop where
  ex : ∃ R' A', ErrV a w' op s r.1 v ∧ CD B0 w' R' A' r.2 ∧ Own R R' w w' ∧ A'.p = A.p
/-- Both calls are over. -/
structure Both (B0 : Nat) (R S : Nat → Nat) (A : Adr) (B : RAdr) (d : Ds) (w w' : World) : Prop where
  ex : ∃ R' S' A' B', Two B0 w' R' S' A' B' d ∧ Own (mix R S) (mix R' S') w w' ∧ A'.p = A.p ∧ B'.q = B.q
theorem Both.same (h : Two B0 w R S A B d) (hb : Below w.heap.size w w') : Both B0 R S A B d w w' := ⟨R, S, A, B, h.below hb, .of_below hb, rfl, rfl⟩
theorem Both.back (h : Both B0 R S A B d w w') {w0 : World} (hb : Below w0.heap.size w0 w) : Both B0 R S A B d w0 w' := by
  obtain ⟨R', S', A', B', h1, h2, h3, h4⟩ := h.ex
  exact ⟨R', S', A', B', h1, (Own.of_below hb).trans h2, h3, h4⟩
theorem Both.on (h : Both B0 R S A B d w w') (hb : Below w'.heap.size w' w'') : Both B0 R S A B d w w'' := by
  obtain ⟨R', S', A', B', h1, h2, h3, h4⟩ := h.ex
  exact ⟨R', S', A', B', h1.below hb, h2.trans (.of_below hb), h3, h4⟩
theorem Both.keep (h : Both B0 R S A B d w w') {q : Nat} (hq : q < w.heap.size) (h0 : mix R S q = 0) : w'.heap[q]? = w.heap[q]? := by
  obtain ⟨R', S', A', B', h1, h2, h3, h4⟩ := h.ex
  exact h2.block q hq h0
theorem Half.keep {r : Nat × Ds} {op s : ByteArray} {v : Value} (h : Half B0 a R A r op s w v w') {q : Nat} (hq : q < w.heap.size) (h0 : R q = 0) : w'.heap[q]? = w.heap[q]? := by
  obtain ⟨R', A', h1, h2, h3, h4⟩ := h.ex
  exact h3.block q hq h0
theorem Half.of {r : Nat × Ds} {op s : ByteArray} {f : FuncId} {args : Array Value} (h : Calls Tryz.prog f args w (NamesOutF B0 a R A r op s w)) : Calls Tryz.prog f args w fun e w' => ∃ v, e = .returned v ∧ Half B0 a R A r op s w v w' :=
  h.mono fun _ _ ⟨v, R', A', h1, h2, h3, h4, h5, _⟩ => ⟨v, h1, R', A', h2, h3, h4, h5⟩
theorem Half.of_ {r : Nat × Ds} {op s : ByteArray} {f : FuncId} {args : Array Value} (h : Calls Tryz.prog f args w (NamesOut B0 a R A r op s w)) : Calls Tryz.prog f args w fun e w' => ∃ v, e = .returned v ∧ Half B0 a R A r op s w v w' :=
  h.mono fun _ _ ⟨v, R', A', h1, h2, h3, h4, h5, _⟩ => ⟨v, h1, R', A', h2, h3, h4, h5⟩
theorem Half.code {r : Nat × Ds} {op s : ByteArray} {v : Value} (h : Half B0 a R A r op s w v w') (hk : r.1 ≤ 7) (hl : ∀ k, k < B0 → R k = 0) (hB : B0 ≤ w.heap.size) (he : Env B0 a w) (ha : Apart a) :
    Calls Tryz.prog 48 #[v, .string op, .string s] w' fun e w'' => e = .returned (.int .i64 (r.1 : Int)) ∧ w' = w'' := by
  obtain ⟨R', A', h1, h2, h3, h4⟩ := h.ex
  have he' := he.below (h3.below hB hl)
  exact code_calls op s r.1 v w' h1 hk he'.f he'.g he'.s ha
theorem Half.ref {r : Nat × Ds} {op s : ByteArray} {v : Value} (h : Half B0 a R A r op s w v w') (h2 : Two B0 w R S A B d) {f : FuncId} {args : Array Value}
    (hR : ∀ R', RD B0 w' S B d → Own R R' w w' → Calls Tryz.prog f args w' (RdOut B0 S B r w')) :
    Calls Tryz.prog f args w' fun e w'' => e = .returned (.int .i64 (r.1 : Int)) ∧ Both B0 R S A B r.2 w w'' := by
  obtain ⟨R', A', k1, k2, k3, k4⟩ := h.ex
  have hr := h2.r.apart k3 h2.dis'
  refine (hR R' hr k3).mono ?_
  rintro e w'' ⟨S', B', rfl, hr', ho', hq'⟩
  have hd1 : ∀ k, R' k ≠ 0 → S k = 0 := fun k hk => by
    rcases Nat.lt_or_ge k w.heap.size with hlt | hge
    · rw [k3.old k hlt] at hk; exact h2.dis k hk
    · exact h2.r.inw.new hge
  have hd2 : ∀ k, R' k ≠ 0 → S' k = 0 := fun k hk => by rw [ho'.old k (k2.inw k hk)]; exact hd1 k hk
  exact ⟨rfl, R', S', A', B', ⟨k2.apart ho' hd1, hr', hd2⟩, k3.mixL.trans ho'.mixR, k4, hq'⟩

/-! ### the failures' numbers -/
theorem stepD_le (d : Ds) : (stepD d).1 ≤ 7 := by
  unfold stepD
  repeat' split
  all_goals simp
theorem namesD_le (d : Ds) (s : St) : (namesD d s).1 ≤ 7 := by
  unfold namesD
  have := stepD_le d
  repeat' split
  all_goals first | exact this | simp
theorem mkdirD_le (d : Ds) (s : Txt) : (mkdirD d s).1 ≤ 7 := by
  unfold mkdirD
  have := namesD_le d (.mkdir s)
  repeat' split
  all_goals first | exact this | simp
theorem createD_le (d : Ds) (s : Txt) : (createD d s).1 ≤ 7 := by
  unfold createD
  have := stepD_le d
  repeat' split
  all_goals first | exact this | simp
theorem removeD_le (d : Ds) (s : Txt) : (removeD d s).1 ≤ 7 := by
  unfold removeD
  have := namesD_le d (.remove s)
  repeat' split
  all_goals first | exact this | simp
theorem renameD_le (d : Ds) (s t : Txt) : (renameD d s t).1 ≤ 7 := by
  unfold renameD
  have := namesD_le d (.rename s t)
  repeat' split
  all_goals first | exact this | simp
theorem fileD_le {d : Ds} {s : Txt} {e : Nat} (h : fileD d s = .error e) : e ≤ 7 := by
  unfold fileD fileT at h
  repeat' split at h
  all_goals first | (cases h; done) | (injection h with h; omega)
theorem appendD_le (d : Ds) (s t : Txt) : (appendD d s t).1 ≤ 7 := by
  unfold appendD
  have := stepD_le d
  split
  · rename_i e h; exact fileD_le h
  · repeat' split
    all_goals first | exact this | simp
theorem cutD_le (d : Ds) (s : Txt) (n : Int) : (cutD d s n).1 ≤ 7 := by
  unfold cutD
  have := stepD_le d
  split
  · rename_i e h; exact fileD_le h
  · repeat' split
    all_goals first | exact this | simp
theorem syncD_le (d : Ds) (s : Txt) : (syncD d s).1 ≤ 7 := by
  unfold syncD
  have := stepD_le d
  split
  · rename_i e h; exact fileD_le h
  · repeat' split
    all_goals first | exact this | simp
theorem syncNamesD_le (d : Ds) : (syncNamesD d).1 ≤ 7 := by
  unfold syncNamesD
  have := stepD_le d
  repeat' split
  all_goals first | exact this | simp
theorem flipD_le (d : Ds) (s : Txt) (k : Int) (m : UInt8) : (flipD d s k m).1 ≤ 7 := by
  unfold flipD
  split
  · rename_i e h; exact fileD_le h
  · repeat' split
    all_goals simp
theorem allD_le (d : Ds) (s : Txt) : (allD d s).2 ≤ 7 := by
  unfold allD
  split
  · rename_i e h; exact fileD_le h
  · simp
theorem readD_le (d : Ds) (s : Txt) (k n : Int) : (readD d s k n).2 ≤ 7 := by
  unfold readD
  have := allD_le d s
  repeat' split
  all_goals first | exact this | simp
theorem listD_le (d : Ds) (s : Txt) : (listD d s).2 ≤ 7 := by
  unfold listD
  repeat' split
  all_goals simp

/-! ### what a well-formed disk gives the walks -/
theorem WF.nl (h : WF M d) (hM : M ≤ 536870912) : ∀ i, (Go.Proofs.YtdaidbnbfjgjeaaGreatDoor.fAt d i).now.length ≤ 1073741824 := fun i => by have := (h.fAt i).now; omega
theorem WF.sl (h : WF M d) (hM : M ≤ 536870912) : ∀ i, (Go.Proofs.YtdaidbnbfjgjeaaGreatDoor.fAt d i).steps.length ≤ 1073741824 := fun i => by have := (h.fAt i).sl; omega
theorem WF.usedL (h : WF M d) : ∀ l : List Th, Go.Proofs.YtdaidbnbfjgjeaaGreatDoor.usedL d l ≤ l.length * M
  | [] => by simp [Go.Proofs.YtdaidbnbfjgjeaaGreatDoor.usedL]
  | x :: l => by
    have h1 := h.usedL l
    have h2 : (if x.dir then 0 else (nowAt d x.at_).length) ≤ M := by
      split
      · omega
      · have := (h.fAt x.at_).now; exact this
    have h3 : Go.Proofs.YtdaidbnbfjgjeaaGreatDoor.usedL d (x :: l) = (if x.dir then 0 else (nowAt d x.at_).length) + Go.Proofs.YtdaidbnbfjgjeaaGreatDoor.usedL d l := by simp [Go.Proofs.YtdaidbnbfjgjeaaGreatDoor.usedL]
    rw [h3, List.length_cons, Nat.add_mul]
    omega
theorem WF.used (h : WF M d) (hM : M ≤ 536870912) : Go.Proofs.YtdaidbnbfjgjeaaGreatDoor.usedL d d.things ≤ 4611686018427387904 := by
  have h1 := h.usedL d.things
  have h2 := h.tl
  have h3 : d.things.length * M ≤ 536870912 * 536870912 := Nat.mul_le_mul (by omega) hM
  omega
theorem WF.capl (h : WF M d) : d.cap ≤ 4611686018427387904 := by have := h.cap; omega
end
end Go.Proofs.YtdaidbnbfjgjeaaGreatDoor

/-! ## DskJoin -/
/- Layer 3's law: step at the two disks (printed by gen_lawjoin.py). -/
namespace Go.Proofs.YtdaidbnbfjgjeaaGreatDoor
open Go.RowKit Go.Shelf Go.Maps Go.Sort

structure OpM (w : World) (Q : Nat → Nat) (o : OpV) (parts : List Txt) (data : List Int) (L : Nat) : Prop where
  a : o.a.size ≤ 1073741824
  b : o.b.size ≤ 1073741824
  n1 : -9223372036854775808 ≤ o.n
  n2 : o.n ≤ 9223372036854775807
  m1 : -9223372036854775808 ≤ o.m
  m2 : o.m ≤ 9223372036854775807
  ps : Strs w o.pa o.pn parts
  pc : o.pn ≤ o.pc
  pn : o.pn * 16 ≤ 140737488351232
  p0 : o.pa = none → o.pc = 0
  po : ∀ x, o.pa = some x → 0 < o.pn → Q x.block = 0
  fl : parts.flatten.length ≤ L
  ds : Ints3 w o.da o.dn data
  dn : o.dn * 8 ≤ 140737488355328
  d0 : o.da = none → o.dc = 0
  do_ : ∀ x, o.da = some x → 0 < o.dn → Q x.block = 0
  dr : ∀ x ∈ data, -9223372036854775808 ≤ x ∧ x ≤ 9223372036854775807
def byteOf (m : Int) : UInt8 := UInt8.ofNat (m % 256).toNat
theorem byteOf_val (m : Int) : ((byteOf m).toNat : Int) = m % 256 := by
  unfold byteOf
  rw [UInt8.toNat_ofNat']
  have h1 := Int.emod_nonneg m (by decide : (256 : Int) ≠ 0)
  have h2 := Int.emod_lt_of_pos m (by decide : (0 : Int) < 256)
  omega
/-- What a call does with the disk. -/
def opD (d : Ds) (o : OpV) (parts : List Txt) (data : List Int) : Ds :=
  if o.kind = 1 then (mkdirD d o.a.data.toList).2 else if o.kind = 2 then (createD d o.a.data.toList).2 else if o.kind = 3 then (appendD d o.a.data.toList parts.flatten).2
  else if o.kind = 4 then (cutD d o.a.data.toList o.n).2 else if o.kind = 5 then (syncD d o.a.data.toList).2 else if o.kind = 6 then (syncNamesD d).2
  else if o.kind = 7 then (renameD d o.a.data.toList o.b.data.toList).2 else if o.kind = 8 then (removeD d o.a.data.toList).2
  else if o.kind = 12 then crashD d o.n else if o.kind = 13 then restartD d o.n data o.yes else if o.kind = 14 then (flipD d o.a.data.toList o.n (byteOf o.m)).2 else d
section
variable {B0 M : Nat} {a : Nat → Addr} {R S : Nat → Nat} {A : Adr} {B : RAdr} {d : Ds} {w w' : World}
theorem WF.op (h : WF M d) (o : OpV) (parts : List Txt) (data : List Int) (hn : o.n ≤ 9223372036854775807) {L : Nat} (hL : parts.flatten.length ≤ L) : WF (M + L + 1) (opD d o parts data) := by
  have h0 : WF (M + L + 1) d := h.more (by omega)
  have hp : ∀ {x : Ds}, WF (M + 1) x → WF (M + L + 1) x := fun k => k.more (by omega)
  unfold opD
  repeat' split
  · exact hp (h.mkdir _)
  · exact hp (h.create _)
  · exact (h.append _ _).more (by omega)
  · exact hp (h.cut _ _)
  · exact hp (h.sync _)
  · exact hp h.syncNames
  · exact hp (h.rename _ _)
  · exact hp (h.remove _)
  · exact hp (h.crash hn)
  · exact hp (h.restart _ _ _)
  · exact hp (h.flip _ _ _)
  · exact h0
theorem box_size (o : OpV) (w : World) : w.heap.size < (o.boxed w).heap.size := by unfold OpV.boxed World.alloc; simp
theorem Half.box {r : Nat × Ds} {op s : ByteArray} {v : Value} {o : OpV} {w1 : World} (h : Half B0 a R A r op s w1 v w') (hq : OpBox w1 w.heap.size o) (h2 : Two B0 w R S A B d) : OpBox w' w.heap.size o :=
  (h.keep hq.lt (h2.c.inw.new (Nat.le_refl _))).trans hq
theorem Both.box {d' : Ds} {o : OpV} {w1 : World} (h : Both B0 R S A B d' w1 w') (hq : OpBox w1 w.heap.size o) (h2 : Two B0 w R S A B d) : OpBox w' w.heap.size o :=
  (h.keep hq.lt (h2.new (Nat.le_refl _))).trans hq
theorem OpM.same {Q : Nat → Nat} {o : OpV} {parts : List Txt} {data : List Int} {L : Nat} (h : OpM w Q o parts data L) (hs : w.heap.size ≤ w'.heap.size) (hk : ∀ k, k < w.heap.size → Q k = 0 → w'.heap[k]? = w.heap[k]?) : Strs w' o.pa o.pn parts ∧ Ints3 w' o.da o.dn data := by
  constructor
  · refine ⟨h.ps.1, fun h0 => ?_⟩
    obtain ⟨b, off, e, hb, hc⟩ := h.ps.2 h0
    refine ⟨b, off, e, by omega, fun i x hx j v hv => ?_⟩
    rw [← hc i x hx j v hv]
    exact World.cell?_of_block (hk b hb (h.po _ e h0))
  · refine ⟨h.ds.1, fun h0 => ?_⟩
    obtain ⟨b, off, e, hb, hc⟩ := h.ds.2 h0
    refine ⟨b, off, e, by omega, fun i x hx j v hv => ?_⟩
    rw [← hc i x hx j v hv]
    exact World.cell?_of_block (hk b hb (h.do_ _ e h0))
theorem two_mkdir (X Y : ByteArray) (n m : Int) (pa : Option Addr) (pn pc : Nat) (da : Option Addr) (dn dc : Nat) (yes : Bool) (parts : List Txt) (data : List Int) {L : Nat} (h : Two B0 w R S A B d) (he : Env B0 a w) (ha : Apart a) (hB : B0 ≤ w.heap.size) (hw : WF M d) (hM : M + L ≤ 536870912)
    (ho : OpM w (mix R S) ⟨1, X, Y, n, m, pa, pn, pc, da, dn, dc, yes⟩ parts data L) :
    Calls Tryz.prog 21 #[.pointer (some ⟨A.p, 0, none⟩), .pointer (some ⟨B.q, 0, none⟩), .agg #[.int .i64 1, .string X, .string Y, .int .i64 n, .int .i64 m, .slice pa pn pc, .slice da dn dc, .bool yes]] w fun e w' => e = .returned (.bool true) ∧ Both B0 R S A B (opD d ⟨1, X, Y, n, m, pa, pn, pc, da, dn, dc, yes⟩ parts data) w w' := by
  have hb1 : Below w.heap.size w ((⟨1, X, Y, n, m, pa, pn, pc, da, dn, dc, yes⟩ : OpV).boxed w).drew := (OpV.below _ w).drew
  have hq1 : OpBox ((⟨1, X, Y, n, m, pa, pn, pc, da, dn, dc, yes⟩ : OpV).boxed w).drew w.heap.size ⟨1, X, Y, n, m, pa, pn, pc, da, dn, dc, yes⟩ := OpV.box _ w
  obtain ⟨w1, hw1⟩ : ∃ x, ((⟨1, X, Y, n, m, pa, pn, pc, da, dn, dc, yes⟩ : OpV).boxed w).drew = x := ⟨_, rfl⟩
  rw [hw1] at hb1 hq1
  have h1 := h.below hb1
  have he1 := he.below (hb1.mono hB)
  have hB1 : B0 ≤ w1.heap.size := Nat.le_trans hB hb1.size
  have hf := hw.fit (by omega)
  have hop : opD d ⟨1, X, Y, n, m, pa, pn, pc, da, dn, dc, yes⟩ parts data = (mkdirD d X.data.toList).2 := rfl
  rw [hop]
  refine (step_mkdir (M := Half B0 a R A (mkdirD d X.data.toList) ⟨#[109, 107, 100, 105, 114]⟩ X w1) (N := Both B0 R S A B (mkdirD d X.data.toList).2 w1) (k := (mkdirD d X.data.toList).1) _ _ X Y n m pa pn pc da dn dc yes w ?_ ?_ ?_ ?_ ?_).mono ?_
  · rw [hw1]; exact Half.of_ (mkdir_calls X w1 h1.c hf ho.a hB1 he1.f)
  · exact fun v w2 hh => hh.code (mkdirD_le _ _) h1.c.low hB1 he1 ha
  · exact fun v w2 hh => hh.ref h1 fun R' k1 k2 => rmkdir_calls X w2 k1 hf ho.a (Nat.le_trans hB1 k2.size)
  · exact fun v w2 hh => hh.box hq1 h
  · exact fun w2 hh => hh.box hq1 h
  · exact fun e w2 ⟨e1, hh⟩ => ⟨e1, hh.back hb1⟩
theorem two_create (X Y : ByteArray) (n m : Int) (pa : Option Addr) (pn pc : Nat) (da : Option Addr) (dn dc : Nat) (yes : Bool) (parts : List Txt) (data : List Int) {L : Nat} (h : Two B0 w R S A B d) (he : Env B0 a w) (ha : Apart a) (hB : B0 ≤ w.heap.size) (hw : WF M d) (hM : M + L ≤ 536870912)
    (ho : OpM w (mix R S) ⟨2, X, Y, n, m, pa, pn, pc, da, dn, dc, yes⟩ parts data L) :
    Calls Tryz.prog 21 #[.pointer (some ⟨A.p, 0, none⟩), .pointer (some ⟨B.q, 0, none⟩), .agg #[.int .i64 2, .string X, .string Y, .int .i64 n, .int .i64 m, .slice pa pn pc, .slice da dn dc, .bool yes]] w fun e w' => e = .returned (.bool true) ∧ Both B0 R S A B (opD d ⟨2, X, Y, n, m, pa, pn, pc, da, dn, dc, yes⟩ parts data) w w' := by
  have hb1 : Below w.heap.size w ((⟨2, X, Y, n, m, pa, pn, pc, da, dn, dc, yes⟩ : OpV).boxed w).drew := (OpV.below _ w).drew
  have hq1 : OpBox ((⟨2, X, Y, n, m, pa, pn, pc, da, dn, dc, yes⟩ : OpV).boxed w).drew w.heap.size ⟨2, X, Y, n, m, pa, pn, pc, da, dn, dc, yes⟩ := OpV.box _ w
  obtain ⟨w1, hw1⟩ : ∃ x, ((⟨2, X, Y, n, m, pa, pn, pc, da, dn, dc, yes⟩ : OpV).boxed w).drew = x := ⟨_, rfl⟩
  rw [hw1] at hb1 hq1
  have h1 := h.below hb1
  have he1 := he.below (hb1.mono hB)
  have hB1 : B0 ≤ w1.heap.size := Nat.le_trans hB hb1.size
  have hf := hw.fit (by omega)
  have hop : opD d ⟨2, X, Y, n, m, pa, pn, pc, da, dn, dc, yes⟩ parts data = (createD d X.data.toList).2 := rfl
  rw [hop]
  refine (step_create (M := Half B0 a R A (createD d X.data.toList) ⟨#[99, 114, 101, 97, 116, 101]⟩ X w1) (N := Both B0 R S A B (createD d X.data.toList).2 w1) (k := (createD d X.data.toList).1) _ _ X Y n m pa pn pc da dn dc yes w ?_ ?_ ?_ ?_ ?_).mono ?_
  · rw [hw1]; exact Half.of (create_calls X w1 h1.c hf hw.nums ho.a hB1 he1.f)
  · exact fun v w2 hh => hh.code (createD_le _ _) h1.c.low hB1 he1 ha
  · exact fun v w2 hh => hh.ref h1 fun R' k1 k2 => rcreate_calls X w2 k1 hf ho.a (Nat.le_trans hB1 k2.size)
  · exact fun v w2 hh => hh.box hq1 h
  · exact fun w2 hh => hh.box hq1 h
  · exact fun e w2 ⟨e1, hh⟩ => ⟨e1, hh.back hb1⟩
theorem two_cut (X Y : ByteArray) (n m : Int) (pa : Option Addr) (pn pc : Nat) (da : Option Addr) (dn dc : Nat) (yes : Bool) (parts : List Txt) (data : List Int) {L : Nat} (h : Two B0 w R S A B d) (he : Env B0 a w) (ha : Apart a) (hB : B0 ≤ w.heap.size) (hw : WF M d) (hM : M + L ≤ 536870912)
    (ho : OpM w (mix R S) ⟨4, X, Y, n, m, pa, pn, pc, da, dn, dc, yes⟩ parts data L) :
    Calls Tryz.prog 21 #[.pointer (some ⟨A.p, 0, none⟩), .pointer (some ⟨B.q, 0, none⟩), .agg #[.int .i64 4, .string X, .string Y, .int .i64 n, .int .i64 m, .slice pa pn pc, .slice da dn dc, .bool yes]] w fun e w' => e = .returned (.bool true) ∧ Both B0 R S A B (opD d ⟨4, X, Y, n, m, pa, pn, pc, da, dn, dc, yes⟩ parts data) w w' := by
  have hb1 : Below w.heap.size w ((⟨4, X, Y, n, m, pa, pn, pc, da, dn, dc, yes⟩ : OpV).boxed w).drew := (OpV.below _ w).drew
  have hq1 : OpBox ((⟨4, X, Y, n, m, pa, pn, pc, da, dn, dc, yes⟩ : OpV).boxed w).drew w.heap.size ⟨4, X, Y, n, m, pa, pn, pc, da, dn, dc, yes⟩ := OpV.box _ w
  obtain ⟨w1, hw1⟩ : ∃ x, ((⟨4, X, Y, n, m, pa, pn, pc, da, dn, dc, yes⟩ : OpV).boxed w).drew = x := ⟨_, rfl⟩
  rw [hw1] at hb1 hq1
  have h1 := h.below hb1
  have he1 := he.below (hb1.mono hB)
  have hB1 : B0 ≤ w1.heap.size := Nat.le_trans hB hb1.size
  have hf := hw.fit (by omega)
  have hop : opD d ⟨4, X, Y, n, m, pa, pn, pc, da, dn, dc, yes⟩ parts data = (cutD d X.data.toList n).2 := rfl
  rw [hop]
  refine (step_cut (M := Half B0 a R A (cutD d X.data.toList n) ⟨#[99, 117, 116]⟩ X w1) (N := Both B0 R S A B (cutD d X.data.toList n).2 w1) (k := (cutD d X.data.toList n).1) _ _ X Y n m pa pn pc da dn dc yes w ?_ ?_ ?_ ?_ ?_).mono ?_
  · rw [hw1]; exact Half.of_ (cut_calls X n w1 h1.c hf ho.a hB1 he1.f he1.g ho.n1 ho.n2 (hw.nl (by omega)) (hw.sl (by omega)))
  · exact fun v w2 hh => hh.code (cutD_le _ _ _) h1.c.low hB1 he1 ha
  · exact fun v w2 hh => hh.ref h1 fun R' k1 k2 => rcut_calls X n w2 k1 hf ho.a (Nat.le_trans hB1 k2.size) ho.n1 ho.n2 (hw.nl (by omega)) (hw.sl (by omega))
  · exact fun v w2 hh => hh.box hq1 h
  · exact fun w2 hh => hh.box hq1 h
  · exact fun e w2 ⟨e1, hh⟩ => ⟨e1, hh.back hb1⟩
theorem two_sync (X Y : ByteArray) (n m : Int) (pa : Option Addr) (pn pc : Nat) (da : Option Addr) (dn dc : Nat) (yes : Bool) (parts : List Txt) (data : List Int) {L : Nat} (h : Two B0 w R S A B d) (he : Env B0 a w) (ha : Apart a) (hB : B0 ≤ w.heap.size) (hw : WF M d) (hM : M + L ≤ 536870912)
    (ho : OpM w (mix R S) ⟨5, X, Y, n, m, pa, pn, pc, da, dn, dc, yes⟩ parts data L) :
    Calls Tryz.prog 21 #[.pointer (some ⟨A.p, 0, none⟩), .pointer (some ⟨B.q, 0, none⟩), .agg #[.int .i64 5, .string X, .string Y, .int .i64 n, .int .i64 m, .slice pa pn pc, .slice da dn dc, .bool yes]] w fun e w' => e = .returned (.bool true) ∧ Both B0 R S A B (opD d ⟨5, X, Y, n, m, pa, pn, pc, da, dn, dc, yes⟩ parts data) w w' := by
  have hb1 : Below w.heap.size w ((⟨5, X, Y, n, m, pa, pn, pc, da, dn, dc, yes⟩ : OpV).boxed w).drew := (OpV.below _ w).drew
  have hq1 : OpBox ((⟨5, X, Y, n, m, pa, pn, pc, da, dn, dc, yes⟩ : OpV).boxed w).drew w.heap.size ⟨5, X, Y, n, m, pa, pn, pc, da, dn, dc, yes⟩ := OpV.box _ w
  obtain ⟨w1, hw1⟩ : ∃ x, ((⟨5, X, Y, n, m, pa, pn, pc, da, dn, dc, yes⟩ : OpV).boxed w).drew = x := ⟨_, rfl⟩
  rw [hw1] at hb1 hq1
  have h1 := h.below hb1
  have he1 := he.below (hb1.mono hB)
  have hB1 : B0 ≤ w1.heap.size := Nat.le_trans hB hb1.size
  have hf := hw.fit (by omega)
  have hop : opD d ⟨5, X, Y, n, m, pa, pn, pc, da, dn, dc, yes⟩ parts data = (syncD d X.data.toList).2 := rfl
  rw [hop]
  refine (step_sync (M := Half B0 a R A (syncD d X.data.toList) ⟨#[115, 121, 110, 99]⟩ X w1) (N := Both B0 R S A B (syncD d X.data.toList).2 w1) (k := (syncD d X.data.toList).1) _ _ X Y n m pa pn pc da dn dc yes w ?_ ?_ ?_ ?_ ?_).mono ?_
  · rw [hw1]; exact Half.of_ (sync_calls X w1 h1.c hf ho.a hB1 he1.f)
  · exact fun v w2 hh => hh.code (syncD_le _ _) h1.c.low hB1 he1 ha
  · exact fun v w2 hh => hh.ref h1 fun R' k1 k2 => rsync_calls X w2 k1 hf ho.a
  · exact fun v w2 hh => hh.box hq1 h
  · exact fun w2 hh => hh.box hq1 h
  · exact fun e w2 ⟨e1, hh⟩ => ⟨e1, hh.back hb1⟩
theorem two_rename (X Y : ByteArray) (n m : Int) (pa : Option Addr) (pn pc : Nat) (da : Option Addr) (dn dc : Nat) (yes : Bool) (parts : List Txt) (data : List Int) {L : Nat} (h : Two B0 w R S A B d) (he : Env B0 a w) (ha : Apart a) (hB : B0 ≤ w.heap.size) (hw : WF M d) (hM : M + L ≤ 536870912)
    (ho : OpM w (mix R S) ⟨7, X, Y, n, m, pa, pn, pc, da, dn, dc, yes⟩ parts data L) :
    Calls Tryz.prog 21 #[.pointer (some ⟨A.p, 0, none⟩), .pointer (some ⟨B.q, 0, none⟩), .agg #[.int .i64 7, .string X, .string Y, .int .i64 n, .int .i64 m, .slice pa pn pc, .slice da dn dc, .bool yes]] w fun e w' => e = .returned (.bool true) ∧ Both B0 R S A B (opD d ⟨7, X, Y, n, m, pa, pn, pc, da, dn, dc, yes⟩ parts data) w w' := by
  have hb1 : Below w.heap.size w ((⟨7, X, Y, n, m, pa, pn, pc, da, dn, dc, yes⟩ : OpV).boxed w).drew := (OpV.below _ w).drew
  have hq1 : OpBox ((⟨7, X, Y, n, m, pa, pn, pc, da, dn, dc, yes⟩ : OpV).boxed w).drew w.heap.size ⟨7, X, Y, n, m, pa, pn, pc, da, dn, dc, yes⟩ := OpV.box _ w
  obtain ⟨w1, hw1⟩ : ∃ x, ((⟨7, X, Y, n, m, pa, pn, pc, da, dn, dc, yes⟩ : OpV).boxed w).drew = x := ⟨_, rfl⟩
  rw [hw1] at hb1 hq1
  have h1 := h.below hb1
  have he1 := he.below (hb1.mono hB)
  have hB1 : B0 ≤ w1.heap.size := Nat.le_trans hB hb1.size
  have hf := hw.fit (by omega)
  have hop : opD d ⟨7, X, Y, n, m, pa, pn, pc, da, dn, dc, yes⟩ parts data = (renameD d X.data.toList Y.data.toList).2 := rfl
  rw [hop]
  refine (step_rename (M := Half B0 a R A (renameD d X.data.toList Y.data.toList) ⟨#[114, 101, 110, 97, 109, 101]⟩ X w1) (N := Both B0 R S A B (renameD d X.data.toList Y.data.toList).2 w1) (k := (renameD d X.data.toList Y.data.toList).1) _ _ X Y n m pa pn pc da dn dc yes w ?_ ?_ ?_ ?_ ?_).mono ?_
  · rw [hw1]; exact Half.of_ (rename_calls X Y w1 h1.c hf ho.a ho.b hB1 he1.f)
  · exact fun v w2 hh => hh.code (renameD_le _ _ _) h1.c.low hB1 he1 ha
  · exact fun v w2 hh => hh.ref h1 fun R' k1 k2 => rrename_calls X Y w2 k1 hf ho.a ho.b (Nat.le_trans hB1 k2.size)
  · exact fun v w2 hh => hh.box hq1 h
  · exact fun w2 hh => hh.box hq1 h
  · exact fun e w2 ⟨e1, hh⟩ => ⟨e1, hh.back hb1⟩
theorem two_remove (X Y : ByteArray) (n m : Int) (pa : Option Addr) (pn pc : Nat) (da : Option Addr) (dn dc : Nat) (yes : Bool) (parts : List Txt) (data : List Int) {L : Nat} (h : Two B0 w R S A B d) (he : Env B0 a w) (ha : Apart a) (hB : B0 ≤ w.heap.size) (hw : WF M d) (hM : M + L ≤ 536870912)
    (ho : OpM w (mix R S) ⟨8, X, Y, n, m, pa, pn, pc, da, dn, dc, yes⟩ parts data L) :
    Calls Tryz.prog 21 #[.pointer (some ⟨A.p, 0, none⟩), .pointer (some ⟨B.q, 0, none⟩), .agg #[.int .i64 8, .string X, .string Y, .int .i64 n, .int .i64 m, .slice pa pn pc, .slice da dn dc, .bool yes]] w fun e w' => e = .returned (.bool true) ∧ Both B0 R S A B (opD d ⟨8, X, Y, n, m, pa, pn, pc, da, dn, dc, yes⟩ parts data) w w' := by
  have hb1 : Below w.heap.size w ((⟨8, X, Y, n, m, pa, pn, pc, da, dn, dc, yes⟩ : OpV).boxed w).drew := (OpV.below _ w).drew
  have hq1 : OpBox ((⟨8, X, Y, n, m, pa, pn, pc, da, dn, dc, yes⟩ : OpV).boxed w).drew w.heap.size ⟨8, X, Y, n, m, pa, pn, pc, da, dn, dc, yes⟩ := OpV.box _ w
  obtain ⟨w1, hw1⟩ : ∃ x, ((⟨8, X, Y, n, m, pa, pn, pc, da, dn, dc, yes⟩ : OpV).boxed w).drew = x := ⟨_, rfl⟩
  rw [hw1] at hb1 hq1
  have h1 := h.below hb1
  have he1 := he.below (hb1.mono hB)
  have hB1 : B0 ≤ w1.heap.size := Nat.le_trans hB hb1.size
  have hf := hw.fit (by omega)
  have hop : opD d ⟨8, X, Y, n, m, pa, pn, pc, da, dn, dc, yes⟩ parts data = (removeD d X.data.toList).2 := rfl
  rw [hop]
  refine (step_remove (M := Half B0 a R A (removeD d X.data.toList) ⟨#[114, 101, 109, 111, 118, 101]⟩ X w1) (N := Both B0 R S A B (removeD d X.data.toList).2 w1) (k := (removeD d X.data.toList).1) _ _ X Y n m pa pn pc da dn dc yes w ?_ ?_ ?_ ?_ ?_).mono ?_
  · rw [hw1]; exact Half.of_ (remove_calls X w1 h1.c hf ho.a hB1 he1.f)
  · exact fun v w2 hh => hh.code (removeD_le _ _) h1.c.low hB1 he1 ha
  · exact fun v w2 hh => hh.ref h1 fun R' k1 k2 => rremove_calls X w2 k1 hf ho.a (Nat.le_trans hB1 k2.size)
  · exact fun v w2 hh => hh.box hq1 h
  · exact fun w2 hh => hh.box hq1 h
  · exact fun e w2 ⟨e1, hh⟩ => ⟨e1, hh.back hb1⟩
end
end Go.Proofs.YtdaidbnbfjgjeaaGreatDoor
