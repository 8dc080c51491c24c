/- Merged: DskStep. -/
import Derived.Test.YtdaidbnbfjgjeaaGreatDoorDsa27
set_option linter.unusedVariables false
set_option linter.unusedSimpArgs false
/-! ## DskStep -/
/- The walks of layer 3's law: step, arm by arm (printed by gen_lawstep.py). -/
namespace Go.Proofs.YtdaidbnbfjgjeaaGreatDoor
open Go.RowKit Go.Shelf Go.Maps Go.Sort
attribute [local go_sem ↓] Go.wp_at_zero Go.wp_at_succ
attribute [local go_sem] Later.cell Later.frozen

/-- One call of a script, in memory. -/
structure OpV where
  kind : Int
  a : ByteArray
  b : ByteArray
  n : Int
  m : Int
  pa : Option Addr
  pn : Nat
  pc : Nat
  da : Option Addr
  dn : Nat
  dc : Nat
  yes : Bool
def OpV.cells (o : OpV) : Array Value := #[.int .i64 o.kind, .string o.a, .string o.b, .int .i64 o.n, .int .i64 o.m, .slice o.pa o.pn o.pc, .slice o.da o.dn o.dc, .bool o.yes]
def OpV.boxed (o : OpV) (w : World) : World := w.alloc (.cells o.cells 44)
def OpBox (w : World) (q : Nat) (o : OpV) : Prop := Blk w q 44 o.cells
theorem OpV.box (o : OpV) (w : World) : OpBox (o.boxed w) w.heap.size o := Blk.new _ _ _
theorem OpV.below (o : OpV) (w : World) : Below w.heap.size w (o.boxed w) := (Below.refl _ _).alloc (Nat.le_refl _) _
structure OpCells (w : World) (q : Nat) (K : Int) (A B : ByteArray) (n m : Int) (pa : Option Addr) (pn pc : Nat) (da : Option Addr) (dn dc : Nat) (yes : Bool) : Prop where
  c0 : w.cell? ⟨q, 0, none⟩ = some (.int .i64 K)
  c1 : w.cell? ⟨q, 1, none⟩ = some (.string A)
  c2 : w.cell? ⟨q, 2, none⟩ = some (.string B)
  c3 : w.cell? ⟨q, 3, none⟩ = some (.int .i64 n)
  c4 : w.cell? ⟨q, 4, none⟩ = some (.int .i64 m)
  c5 : w.cell? ⟨q, 5, none⟩ = some (.slice pa pn pc)
  c6 : w.cell? ⟨q, 6, none⟩ = some (.slice da dn dc)
  c7 : w.cell? ⟨q, 7, none⟩ = some (.bool yes)
theorem OpBox.all {w : World} {q : Nat} {K : Int} {A B : ByteArray} {n m : Int} {pa : Option Addr} {pn pc : Nat} {da : Option Addr} {dn dc : Nat} {yes : Bool} (h : OpBox w q ⟨K, A, B, n, m, pa, pn, pc, da, dn, dc, yes⟩) : OpCells w q K A B n m pa pn pc da dn dc yes :=
  ⟨h.cell 0, h.cell 1, h.cell 2, h.cell 3, h.cell 4, h.cell 5, h.cell 6, h.cell 7⟩
section
variable {M : Value → World → Prop} {N : World → Prop} {k : Nat}
set_option maxRecDepth 100000 in
set_option maxHeartbeats 4000000 in
theorem step_mkdir (P Q : Value) (A B : ByteArray) (n m : Int) (pa : Option Addr) (pn pc : Nat) (da : Option Addr) (dn dc : Nat) (yes : Bool) (w : World)
    (hC : Calls Tryz.prog 11 #[P, .string A] ((⟨1, A, B, n, m, pa, pn, pc, da, dn, dc, yes⟩ : OpV).boxed w).drew fun e w' => ∃ v, e = .returned v ∧ M v w')
    (hK : ∀ v w', M v w' → Calls Tryz.prog 48 #[v, .string ⟨#[109, 107, 100, 105, 114]⟩, .string A] w' fun e w'' => e = .returned (.int .i64 (k : Int)) ∧ w' = w'')
    (hR : ∀ v w', M v w' → Calls Tryz.prog 49 #[Q, .string A] w' fun e w'' => e = .returned (.int .i64 (k : Int)) ∧ N w'')
    (hM : ∀ v w', M v w' → OpBox w' w.heap.size ⟨1, A, B, n, m, pa, pn, pc, da, dn, dc, yes⟩) (hN : ∀ w', N w' → OpBox w' w.heap.size ⟨1, A, B, n, m, pa, pn, pc, da, dn, dc, yes⟩) :
    Calls Tryz.prog 21 #[P, Q, .agg #[.int .i64 1, .string A, .string B, .int .i64 n, .int .i64 m, .slice pa pn pc, .slice da dn dc, .bool yes]] w fun e w' => e = .returned (.bool true) ∧ N w' := by
  have HC := Lib.hid hC
  have HK := Lib.hid hK
  have HR := Lib.hid hR
  have HM := Lib.hid (fun v w' h => (hM v w' h).all)
  have HN := Lib.hid (fun w' h => (hN w' h).all)
  clear hC hK hR hM hN
  go_enter Tryz.func21, Tryz.ntmps21
  go_upto_region 1 with fail
  obtain ⟨w1, hw1⟩ : ∃ x, (⟨1, A, B, n, m, pa, pn, pc, da, dn, dc, yes⟩ : OpV).boxed w = x := ⟨_, rfl⟩
  have hall := ((⟨1, A, B, n, m, pa, pn, pc, da, dn, dc, yes⟩ : OpV).box w).all
  rw [hw1] at hall HC
  unfold OpV.boxed OpV.cells at hw1
  simp only [Int.reduceNeg] at hw1
  rw [hw1]
  obtain ⟨q, hqq⟩ : ∃ q, w.heap.size = q := ⟨_, rfl⟩
  rw [hqq] at hall HM HN ⊢
  have b0 := hall.c0
  have b1 := hall.c1
  have b2 := hall.c2
  have b3 := hall.c3
  clear hall hw1 hqq
  go_wp2_with fail
  go_region_held3 (fun w' => w'.cell? ⟨q, 1, none⟩ = some (.string A)) (first | (exact (HN.out _ hn4).c1) | (exact (HM.out _ _ hm2).c1) | go_keep) (first | (go_at_call 11; refine HC.out.mono ?_; rintro e w2 ⟨v2, rfl, hm2⟩) | (go_at_call 48; refine (HK.out _ _ hm2).mono ?_; rintro e w3 ⟨rfl, rfl⟩) | (go_at_call 49; refine (HR.out _ _ hm2).mono ?_; rintro e w4 ⟨rfl, hn4⟩))
  go_wp2_with fail
  go_ret
  exact ⟨rfl, hn4⟩
set_option maxRecDepth 100000 in
set_option maxHeartbeats 4000000 in
theorem step_create (P Q : Value) (A B : ByteArray) (n m : Int) (pa : Option Addr) (pn pc : Nat) (da : Option Addr) (dn dc : Nat) (yes : Bool) (w : World)
    (hC : Calls Tryz.prog 12 #[P, .string A] ((⟨2, A, B, n, m, pa, pn, pc, da, dn, dc, yes⟩ : OpV).boxed w).drew fun e w' => ∃ v, e = .returned v ∧ M v w')
    (hK : ∀ v w', M v w' → Calls Tryz.prog 48 #[v, .string ⟨#[99, 114, 101, 97, 116, 101]⟩, .string A] w' fun e w'' => e = .returned (.int .i64 (k : Int)) ∧ w' = w'')
    (hR : ∀ v w', M v w' → Calls Tryz.prog 50 #[Q, .string A] w' fun e w'' => e = .returned (.int .i64 (k : Int)) ∧ N w'')
    (hM : ∀ v w', M v w' → OpBox w' w.heap.size ⟨2, A, B, n, m, pa, pn, pc, da, dn, dc, yes⟩) (hN : ∀ w', N w' → OpBox w' w.heap.size ⟨2, A, B, n, m, pa, pn, pc, da, dn, dc, yes⟩) :
    Calls Tryz.prog 21 #[P, Q, .agg #[.int .i64 2, .string A, .string B, .int .i64 n, .int .i64 m, .slice pa pn pc, .slice da dn dc, .bool yes]] w fun e w' => e = .returned (.bool true) ∧ N w' := by
  have HC := Lib.hid hC
  have HK := Lib.hid hK
  have HR := Lib.hid hR
  have HM := Lib.hid (fun v w' h => (hM v w' h).all)
  have HN := Lib.hid (fun w' h => (hN w' h).all)
  clear hC hK hR hM hN
  go_enter Tryz.func21, Tryz.ntmps21
  go_upto_region 1 with fail
  obtain ⟨w1, hw1⟩ : ∃ x, (⟨2, A, B, n, m, pa, pn, pc, da, dn, dc, yes⟩ : OpV).boxed w = x := ⟨_, rfl⟩
  have hall := ((⟨2, A, B, n, m, pa, pn, pc, da, dn, dc, yes⟩ : OpV).box w).all
  rw [hw1] at hall HC
  unfold OpV.boxed OpV.cells at hw1
  simp only [Int.reduceNeg] at hw1
  rw [hw1]
  obtain ⟨q, hqq⟩ : ∃ q, w.heap.size = q := ⟨_, rfl⟩
  rw [hqq] at hall HM HN ⊢
  have b0 := hall.c0
  have b1 := hall.c1
  have b2 := hall.c2
  have b3 := hall.c3
  clear hall hw1 hqq
  go_wp2_with fail
  go_region_held3 (fun w' => w'.cell? ⟨q, 1, none⟩ = some (.string A)) (first | (exact (HN.out _ hn4).c1) | (exact (HM.out _ _ hm2).c1) | go_keep) (first | (go_at_call 12; refine HC.out.mono ?_; rintro e w2 ⟨v2, rfl, hm2⟩) | (go_at_call 48; refine (HK.out _ _ hm2).mono ?_; rintro e w3 ⟨rfl, rfl⟩) | (go_at_call 50; refine (HR.out _ _ hm2).mono ?_; rintro e w4 ⟨rfl, hn4⟩))
  go_wp2_with fail
  go_ret
  exact ⟨rfl, hn4⟩
set_option maxRecDepth 100000 in
set_option maxHeartbeats 4000000 in
theorem step_cut (P Q : Value) (A B : ByteArray) (n m : Int) (pa : Option Addr) (pn pc : Nat) (da : Option Addr) (dn dc : Nat) (yes : Bool) (w : World)
    (hC : Calls Tryz.prog 53 #[P, .string A, .int .i64 n] ((⟨4, A, B, n, m, pa, pn, pc, da, dn, dc, yes⟩ : OpV).boxed w).drew fun e w' => ∃ v, e = .returned v ∧ M v w')
    (hK : ∀ v w', M v w' → Calls Tryz.prog 48 #[v, .string ⟨#[99, 117, 116]⟩, .string A] w' fun e w'' => e = .returned (.int .i64 (k : Int)) ∧ w' = w'')
    (hR : ∀ v w', M v w' → Calls Tryz.prog 54 #[Q, .string A, .int .i64 n] w' fun e w'' => e = .returned (.int .i64 (k : Int)) ∧ N w'')
    (hM : ∀ v w', M v w' → OpBox w' w.heap.size ⟨4, A, B, n, m, pa, pn, pc, da, dn, dc, yes⟩) (hN : ∀ w', N w' → OpBox w' w.heap.size ⟨4, A, B, n, m, pa, pn, pc, da, dn, dc, yes⟩) :
    Calls Tryz.prog 21 #[P, Q, .agg #[.int .i64 4, .string A, .string B, .int .i64 n, .int .i64 m, .slice pa pn pc, .slice da dn dc, .bool yes]] w fun e w' => e = .returned (.bool true) ∧ N w' := by
  have HC := Lib.hid hC
  have HK := Lib.hid hK
  have HR := Lib.hid hR
  have HM := Lib.hid (fun v w' h => (hM v w' h).all)
  have HN := Lib.hid (fun w' h => (hN w' h).all)
  clear hC hK hR hM hN
  go_enter Tryz.func21, Tryz.ntmps21
  go_upto_region 1 with fail
  obtain ⟨w1, hw1⟩ : ∃ x, (⟨4, A, B, n, m, pa, pn, pc, da, dn, dc, yes⟩ : OpV).boxed w = x := ⟨_, rfl⟩
  have hall := ((⟨4, A, B, n, m, pa, pn, pc, da, dn, dc, yes⟩ : OpV).box w).all
  rw [hw1] at hall HC
  unfold OpV.boxed OpV.cells at hw1
  simp only [Int.reduceNeg] at hw1
  rw [hw1]
  obtain ⟨q, hqq⟩ : ∃ q, w.heap.size = q := ⟨_, rfl⟩
  rw [hqq] at hall HM HN ⊢
  have b0 := hall.c0
  have b1 := hall.c1
  have b2 := hall.c2
  have b3 := hall.c3
  clear hall hw1 hqq
  go_wp2_with fail
  go_region_held3 (fun w' => w'.cell? ⟨q, 1, none⟩ = some (.string A) ∧ w'.cell? ⟨q, 3, none⟩ = some (.int .i64 n)) (first | (exact ⟨(HN.out _ hn4).c1, (HN.out _ hn4).c3⟩) | (exact ⟨(HM.out _ _ hm2).c1, (HM.out _ _ hm2).c3⟩) | go_keep) (first | (go_at_call 53; refine HC.out.mono ?_; rintro e w2 ⟨v2, rfl, hm2⟩) | (go_at_call 48; refine (HK.out _ _ hm2).mono ?_; rintro e w3 ⟨rfl, rfl⟩) | (go_at_call 54; refine (HR.out _ _ hm2).mono ?_; rintro e w4 ⟨rfl, hn4⟩))
  go_wp2_with fail
  go_ret
  exact ⟨rfl, hn4⟩
set_option maxRecDepth 100000 in
set_option maxHeartbeats 4000000 in
theorem step_sync (P Q : Value) (A B : ByteArray) (n m : Int) (pa : Option Addr) (pn pc : Nat) (da : Option Addr) (dn dc : Nat) (yes : Bool) (w : World)
    (hC : Calls Tryz.prog 14 #[P, .string A] ((⟨5, A, B, n, m, pa, pn, pc, da, dn, dc, yes⟩ : OpV).boxed w).drew fun e w' => ∃ v, e = .returned v ∧ M v w')
    (hK : ∀ v w', M v w' → Calls Tryz.prog 48 #[v, .string ⟨#[115, 121, 110, 99]⟩, .string A] w' fun e w'' => e = .returned (.int .i64 (k : Int)) ∧ w' = w'')
    (hR : ∀ v w', M v w' → Calls Tryz.prog 55 #[Q, .string A] w' fun e w'' => e = .returned (.int .i64 (k : Int)) ∧ N w'')
    (hM : ∀ v w', M v w' → OpBox w' w.heap.size ⟨5, A, B, n, m, pa, pn, pc, da, dn, dc, yes⟩) (hN : ∀ w', N w' → OpBox w' w.heap.size ⟨5, A, B, n, m, pa, pn, pc, da, dn, dc, yes⟩) :
    Calls Tryz.prog 21 #[P, Q, .agg #[.int .i64 5, .string A, .string B, .int .i64 n, .int .i64 m, .slice pa pn pc, .slice da dn dc, .bool yes]] w fun e w' => e = .returned (.bool true) ∧ N w' := by
  have HC := Lib.hid hC
  have HK := Lib.hid hK
  have HR := Lib.hid hR
  have HM := Lib.hid (fun v w' h => (hM v w' h).all)
  have HN := Lib.hid (fun w' h => (hN w' h).all)
  clear hC hK hR hM hN
  go_enter Tryz.func21, Tryz.ntmps21
  go_upto_region 1 with fail
  obtain ⟨w1, hw1⟩ : ∃ x, (⟨5, A, B, n, m, pa, pn, pc, da, dn, dc, yes⟩ : OpV).boxed w = x := ⟨_, rfl⟩
  have hall := ((⟨5, A, B, n, m, pa, pn, pc, da, dn, dc, yes⟩ : OpV).box w).all
  rw [hw1] at hall HC
  unfold OpV.boxed OpV.cells at hw1
  simp only [Int.reduceNeg] at hw1
  rw [hw1]
  obtain ⟨q, hqq⟩ : ∃ q, w.heap.size = q := ⟨_, rfl⟩
  rw [hqq] at hall HM HN ⊢
  have b0 := hall.c0
  have b1 := hall.c1
  have b2 := hall.c2
  have b3 := hall.c3
  clear hall hw1 hqq
  go_wp2_with fail
  go_region_held3 (fun w' => w'.cell? ⟨q, 1, none⟩ = some (.string A)) (first | (exact (HN.out _ hn4).c1) | (exact (HM.out _ _ hm2).c1) | go_keep) (first | (go_at_call 14; refine HC.out.mono ?_; rintro e w2 ⟨v2, rfl, hm2⟩) | (go_at_call 48; refine (HK.out _ _ hm2).mono ?_; rintro e w3 ⟨rfl, rfl⟩) | (go_at_call 55; refine (HR.out _ _ hm2).mono ?_; rintro e w4 ⟨rfl, hn4⟩))
  go_wp2_with fail
  go_ret
  exact ⟨rfl, hn4⟩
set_option maxRecDepth 100000 in
set_option maxHeartbeats 4000000 in
theorem step_rename (P Q : Value) (A B : ByteArray) (n m : Int) (pa : Option Addr) (pn pc : Nat) (da : Option Addr) (dn dc : Nat) (yes : Bool) (w : World)
    (hC : Calls Tryz.prog 57 #[P, .string A, .string B] ((⟨7, A, B, n, m, pa, pn, pc, da, dn, dc, yes⟩ : OpV).boxed w).drew fun e w' => ∃ v, e = .returned v ∧ M v w')
    (hK : ∀ v w', M v w' → Calls Tryz.prog 48 #[v, .string ⟨#[114, 101, 110, 97, 109, 101]⟩, .string A] w' fun e w'' => e = .returned (.int .i64 (k : Int)) ∧ w' = w'')
    (hR : ∀ v w', M v w' → Calls Tryz.prog 58 #[Q, .string A, .string B] w' fun e w'' => e = .returned (.int .i64 (k : Int)) ∧ N w'')
    (hM : ∀ v w', M v w' → OpBox w' w.heap.size ⟨7, A, B, n, m, pa, pn, pc, da, dn, dc, yes⟩) (hN : ∀ w', N w' → OpBox w' w.heap.size ⟨7, A, B, n, m, pa, pn, pc, da, dn, dc, yes⟩) :
    Calls Tryz.prog 21 #[P, Q, .agg #[.int .i64 7, .string A, .string B, .int .i64 n, .int .i64 m, .slice pa pn pc, .slice da dn dc, .bool yes]] w fun e w' => e = .returned (.bool true) ∧ N w' := by
  have HC := Lib.hid hC
  have HK := Lib.hid hK
  have HR := Lib.hid hR
  have HM := Lib.hid (fun v w' h => (hM v w' h).all)
  have HN := Lib.hid (fun w' h => (hN w' h).all)
  clear hC hK hR hM hN
  go_enter Tryz.func21, Tryz.ntmps21
  go_upto_region 1 with fail
  obtain ⟨w1, hw1⟩ : ∃ x, (⟨7, A, B, n, m, pa, pn, pc, da, dn, dc, yes⟩ : OpV).boxed w = x := ⟨_, rfl⟩
  have hall := ((⟨7, A, B, n, m, pa, pn, pc, da, dn, dc, yes⟩ : OpV).box w).all
  rw [hw1] at hall HC
  unfold OpV.boxed OpV.cells at hw1
  simp only [Int.reduceNeg] at hw1
  rw [hw1]
  obtain ⟨q, hqq⟩ : ∃ q, w.heap.size = q := ⟨_, rfl⟩
  rw [hqq] at hall HM HN ⊢
  have b0 := hall.c0
  have b1 := hall.c1
  have b2 := hall.c2
  have b3 := hall.c3
  clear hall hw1 hqq
  go_wp2_with fail
  go_region_held3 (fun w' => w'.cell? ⟨q, 1, none⟩ = some (.string A) ∧ w'.cell? ⟨q, 2, none⟩ = some (.string B)) (first | (exact ⟨(HN.out _ hn4).c1, (HN.out _ hn4).c2⟩) | (exact ⟨(HM.out _ _ hm2).c1, (HM.out _ _ hm2).c2⟩) | go_keep) (first | (go_at_call 57; refine HC.out.mono ?_; rintro e w2 ⟨v2, rfl, hm2⟩) | (go_at_call 48; refine (HK.out _ _ hm2).mono ?_; rintro e w3 ⟨rfl, rfl⟩) | (go_at_call 58; refine (HR.out _ _ hm2).mono ?_; rintro e w4 ⟨rfl, hn4⟩))
  go_wp2_with fail
  go_ret
  exact ⟨rfl, hn4⟩
set_option maxRecDepth 100000 in
set_option maxHeartbeats 4000000 in
theorem step_remove (P Q : Value) (A B : ByteArray) (n m : Int) (pa : Option Addr) (pn pc : Nat) (da : Option Addr) (dn dc : Nat) (yes : Bool) (w : World)
    (hC : Calls Tryz.prog 59 #[P, .string A] ((⟨8, A, B, n, m, pa, pn, pc, da, dn, dc, yes⟩ : OpV).boxed w).drew fun e w' => ∃ v, e = .returned v ∧ M v w')
    (hK : ∀ v w', M v w' → Calls Tryz.prog 48 #[v, .string ⟨#[114, 101, 109, 111, 118, 101]⟩, .string A] w' fun e w'' => e = .returned (.int .i64 (k : Int)) ∧ w' = w'')
    (hR : ∀ v w', M v w' → Calls Tryz.prog 60 #[Q, .string A] w' fun e w'' => e = .returned (.int .i64 (k : Int)) ∧ N w'')
    (hM : ∀ v w', M v w' → OpBox w' w.heap.size ⟨8, A, B, n, m, pa, pn, pc, da, dn, dc, yes⟩) (hN : ∀ w', N w' → OpBox w' w.heap.size ⟨8, A, B, n, m, pa, pn, pc, da, dn, dc, yes⟩) :
    Calls Tryz.prog 21 #[P, Q, .agg #[.int .i64 8, .string A, .string B, .int .i64 n, .int .i64 m, .slice pa pn pc, .slice da dn dc, .bool yes]] w fun e w' => e = .returned (.bool true) ∧ N w' := by
  have HC := Lib.hid hC
  have HK := Lib.hid hK
  have HR := Lib.hid hR
  have HM := Lib.hid (fun v w' h => (hM v w' h).all)
  have HN := Lib.hid (fun w' h => (hN w' h).all)
  clear hC hK hR hM hN
  go_enter Tryz.func21, Tryz.ntmps21
  go_upto_region 1 with fail
  obtain ⟨w1, hw1⟩ : ∃ x, (⟨8, A, B, n, m, pa, pn, pc, da, dn, dc, yes⟩ : OpV).boxed w = x := ⟨_, rfl⟩
  have hall := ((⟨8, A, B, n, m, pa, pn, pc, da, dn, dc, yes⟩ : OpV).box w).all
  rw [hw1] at hall HC
  unfold OpV.boxed OpV.cells at hw1
  simp only [Int.reduceNeg] at hw1
  rw [hw1]
  obtain ⟨q, hqq⟩ : ∃ q, w.heap.size = q := ⟨_, rfl⟩
  rw [hqq] at hall HM HN ⊢
  have b0 := hall.c0
  have b1 := hall.c1
  have b2 := hall.c2
  have b3 := hall.c3
  clear hall hw1 hqq
  go_wp2_with fail
  go_region_held3 (fun w' => w'.cell? ⟨q, 1, none⟩ = some (.string A)) (first | (exact (HN.out _ hn4).c1) | (exact (HM.out _ _ hm2).c1) | go_keep) (first | (go_at_call 59; refine HC.out.mono ?_; rintro e w2 ⟨v2, rfl, hm2⟩) | (go_at_call 48; refine (HK.out _ _ hm2).mono ?_; rintro e w3 ⟨rfl, rfl⟩) | (go_at_call 60; refine (HR.out _ _ hm2).mono ?_; rintro e w4 ⟨rfl, hn4⟩))
  go_wp2_with fail
  go_ret
  exact ⟨rfl, hn4⟩
set_option maxRecDepth 100000 in
set_option maxHeartbeats 4000000 in
theorem step_syncnames (P Q : Value) (A B : ByteArray) (n m : Int) (pa : Option Addr) (pn pc : Nat) (da : Option Addr) (dn dc : Nat) (yes : Bool) (w : World)
    (hC : Calls Tryz.prog 15 #[P] ((⟨6, A, B, n, m, pa, pn, pc, da, dn, dc, yes⟩ : OpV).boxed w) fun e w' => ∃ v, e = .returned v ∧ M v w')
    (hK : ∀ v w', M v w' → Calls Tryz.prog 48 #[v, .string ⟨#[110, 97, 109, 101, 115]⟩, .string ⟨#[]⟩] w' fun e w'' => e = .returned (.int .i64 (k : Int)) ∧ w' = w'')
    (hR : ∀ v w', M v w' → Calls Tryz.prog 56 #[Q] w' fun e w'' => e = .returned (.int .i64 (k : Int)) ∧ N w'') :
    Calls Tryz.prog 21 #[P, Q, .agg #[.int .i64 6, .string A, .string B, .int .i64 n, .int .i64 m, .slice pa pn pc, .slice da dn dc, .bool yes]] w fun e w' => e = .returned (.bool true) ∧ N w' := by
  have HC := Lib.hid hC
  have HK := Lib.hid hK
  have HR := Lib.hid hR
  have HM := Lib.hid (rfl : w.heap.size = w.heap.size)
  have HN := Lib.hid (rfl : w.heap.size = w.heap.size)
  clear hC hK hR
  go_enter Tryz.func21, Tryz.ntmps21
  go_upto_region 1 with fail
  obtain ⟨w1, hw1⟩ : ∃ x, (⟨6, A, B, n, m, pa, pn, pc, da, dn, dc, yes⟩ : OpV).boxed w = x := ⟨_, rfl⟩
  have hall := ((⟨6, A, B, n, m, pa, pn, pc, da, dn, dc, yes⟩ : OpV).box w).all
  rw [hw1] at hall HC
  unfold OpV.boxed OpV.cells at hw1
  rw [hw1]
  obtain ⟨q, hqq⟩ : ∃ q, w.heap.size = q := ⟨_, rfl⟩
  rw [hqq] at hall HM HN ⊢
  have b0 := hall.c0
  have b1 := hall.c1
  have b2 := hall.c2
  have b3 := hall.c3
  have b4 := hall.c4
  have b5 := hall.c5
  have b6 := hall.c6
  have b7 := hall.c7
  clear hall hw1 hqq
  go_wp2_with fail
  refine HC.out.mono ?_
  rintro e w2 ⟨v2, rfl, hm2⟩
  go_wp2_with fail
  refine (HK.out _ _ hm2).mono ?_
  rintro e w3 ⟨rfl, rfl⟩
  go_wp2_with fail
  refine (HR.out _ _ hm2).mono ?_
  rintro e w4 ⟨rfl, hn4⟩
  go_wp2_with fail
  go_ret
  exact ⟨rfl, hn4⟩
set_option maxRecDepth 100000 in
set_option maxHeartbeats 4000000 in
theorem step_append {M0 : Value → World → Prop} (P Q : Value) (A B : ByteArray) (n m : Int) (pa : Option Addr) (pn pc : Nat) (da : Option Addr) (dn dc : Nat) (yes : Bool) (w : World)
    (hT : Calls Tryz.prog 51 #[.slice pa pn pc] ((⟨3, A, B, n, m, pa, pn, pc, da, dn, dc, yes⟩ : OpV).boxed w).drew fun e w' => ∃ v, e = .returned v ∧ M0 v w')
    (hC : ∀ v w', M0 v w' → Calls Tryz.prog 13 #[P, .string A, v] w' fun e w'' => ∃ v, e = .returned v ∧ M v w'')
    (hK : ∀ v w', M v w' → Calls Tryz.prog 48 #[v, .string ⟨#[97, 112, 112, 101, 110, 100]⟩, .string A] w' fun e w'' => e = .returned (.int .i64 (k : Int)) ∧ w' = w'')
    (hR : ∀ v w', M v w' → Calls Tryz.prog 52 #[Q, .string A, .slice pa pn pc] w' fun e w'' => e = .returned (.int .i64 (k : Int)) ∧ N w'')
    (hM0 : ∀ v w', M0 v w' → OpBox w' w.heap.size ⟨3, A, B, n, m, pa, pn, pc, da, dn, dc, yes⟩) (hM : ∀ v w', M v w' → OpBox w' w.heap.size ⟨3, A, B, n, m, pa, pn, pc, da, dn, dc, yes⟩) (hN : ∀ w', N w' → OpBox w' w.heap.size ⟨3, A, B, n, m, pa, pn, pc, da, dn, dc, yes⟩) :
    Calls Tryz.prog 21 #[P, Q, .agg #[.int .i64 3, .string A, .string B, .int .i64 n, .int .i64 m, .slice pa pn pc, .slice da dn dc, .bool yes]] w fun e w' => e = .returned (.bool true) ∧ N w' := by
  have HC := Lib.hid hT
  have HC2 := Lib.hid hC
  have HK := Lib.hid hK
  have HR := Lib.hid hR
  have HM0 := Lib.hid (fun v w' h => (hM0 v w' h).all)
  have HM := Lib.hid (fun v w' h => (hM v w' h).all)
  have HN := Lib.hid (fun w' h => (hN w' h).all)
  clear hT hC hK hR hM hN hM0
  go_enter Tryz.func21, Tryz.ntmps21
  go_upto_region 1 with fail
  obtain ⟨w1, hw1⟩ : ∃ x, (⟨3, A, B, n, m, pa, pn, pc, da, dn, dc, yes⟩ : OpV).boxed w = x := ⟨_, rfl⟩
  have hall := ((⟨3, A, B, n, m, pa, pn, pc, da, dn, dc, yes⟩ : OpV).box w).all
  rw [hw1] at hall HC
  unfold OpV.boxed OpV.cells at hw1
  rw [hw1]
  obtain ⟨q, hqq⟩ : ∃ q, w.heap.size = q := ⟨_, rfl⟩
  rw [hqq] at hall HM HN HM0 ⊢
  have b0 := hall.c0
  have b1 := hall.c1
  have b2 := hall.c2
  have b3 := hall.c3
  have b4 := hall.c4
  have b5 := hall.c5
  have b6 := hall.c6
  have b7 := hall.c7
  clear hall hw1 hqq
  go_wp2_with fail
  go_region_held3 (fun w' => w'.cell? ⟨q, 1, none⟩ = some (.string A) ∧ w'.cell? ⟨q, 5, none⟩ = some (.slice pa pn pc)) (first | (exact ⟨(HN.out _ hn4).c1, (HN.out _ hn4).c5⟩) | (exact ⟨(HM.out _ _ hm2).c1, (HM.out _ _ hm2).c5⟩) | (exact ⟨(HM0.out _ _ hm1).c1, (HM0.out _ _ hm1).c5⟩) | go_keep) (first | (go_at_call 51; refine HC.out.mono ?_; rintro e w1' ⟨v1, rfl, hm1⟩) | (go_at_call 13; refine (HC2.out _ _ hm1).mono ?_; rintro e w2 ⟨v2, rfl, hm2⟩) | (go_at_call 48; refine (HK.out _ _ hm2).mono ?_; rintro e w3 ⟨rfl, rfl⟩) | (go_at_call 52; refine (HR.out _ _ hm2).mono ?_; rintro e w4 ⟨rfl, hn4⟩))
  go_wp2_with fail
  go_ret
  exact ⟨rfl, hn4⟩
set_option maxRecDepth 100000 in
set_option maxHeartbeats 4000000 in
theorem step_read {T : ByteArray} (P Q : Value) (A B : ByteArray) (n m : Int) (pa : Option Addr) (pn pc : Nat) (da : Option Addr) (dn dc : Nat) (yes : Bool) (w : World)
    (hC : Calls Tryz.prog 61 #[P, .string A, .int .i64 n, .int .i64 m] ((⟨9, A, B, n, m, pa, pn, pc, da, dn, dc, yes⟩ : OpV).boxed w) fun e w' => ∃ v, e = .returned (.tuple #[.string T, v]) ∧ M v w')
    (hK : ∀ v w', M v w' → Calls Tryz.prog 48 #[v, .string ⟨#[114, 101, 97, 100]⟩, .string A] w' fun e w'' => e = .returned (.int .i64 (k : Int)) ∧ w' = w'')
    (hR : ∀ v w', M v w' → Calls Tryz.prog 62 #[Q, .string A, .int .i64 n, .int .i64 m] w' fun e w'' => e = .returned (.tuple #[.string T, .int .i64 (k : Int)]) ∧ w' = w'')
    (hM : ∀ v w', M v w' → OpBox w' w.heap.size ⟨9, A, B, n, m, pa, pn, pc, da, dn, dc, yes⟩) :
    Calls Tryz.prog 21 #[P, Q, .agg #[.int .i64 9, .string A, .string B, .int .i64 n, .int .i64 m, .slice pa pn pc, .slice da dn dc, .bool yes]] w fun e w' => e = .returned (.bool true) ∧ ∃ v, M v w' := by
  have HC := Lib.hid hC
  have HK := Lib.hid hK
  have HR := Lib.hid hR
  have HM := Lib.hid (fun v w' h => (hM v w' h).all)
  have HN := Lib.hid (rfl : w.heap.size = w.heap.size)
  clear hC hK hR hM
  go_enter Tryz.func21, Tryz.ntmps21
  go_upto_region 1 with fail
  obtain ⟨w1, hw1⟩ : ∃ x, (⟨9, A, B, n, m, pa, pn, pc, da, dn, dc, yes⟩ : OpV).boxed w = x := ⟨_, rfl⟩
  have hall := ((⟨9, A, B, n, m, pa, pn, pc, da, dn, dc, yes⟩ : OpV).box w).all
  rw [hw1] at hall HC
  unfold OpV.boxed OpV.cells at hw1
  rw [hw1]
  obtain ⟨q, hqq⟩ : ∃ q, w.heap.size = q := ⟨_, rfl⟩
  rw [hqq] at hall HM HN ⊢
  have b0 := hall.c0
  have b1 := hall.c1
  have b2 := hall.c2
  have b3 := hall.c3
  have b4 := hall.c4
  have b5 := hall.c5
  have b6 := hall.c6
  have b7 := hall.c7
  clear hall hw1 hqq
  go_wp2_with fail
  refine HC.out.mono ?_
  rintro e w2 ⟨v2, rfl, hm2⟩
  have a1 := (HM.out _ _ hm2).c1
  have a3 := (HM.out _ _ hm2).c3
  have a4 := (HM.out _ _ hm2).c4
  go_wp2_with fail
  refine (HR.out _ _ hm2).mono ?_
  rintro e w3 ⟨rfl, rfl⟩
  go_wp2_with fail
  refine (HK.out _ _ hm2).mono ?_
  rintro e w3 ⟨rfl, rfl⟩
  go_wp2_with fail
  go_ret
  exact ⟨rfl, v2, hm2⟩
set_option maxRecDepth 100000 in
set_option maxHeartbeats 4000000 in
theorem step_all {T : ByteArray} (P Q : Value) (A B : ByteArray) (n m : Int) (pa : Option Addr) (pn pc : Nat) (da : Option Addr) (dn dc : Nat) (yes : Bool) (w : World)
    (hC : Calls Tryz.prog 17 #[P, .string A] ((⟨10, A, B, n, m, pa, pn, pc, da, dn, dc, yes⟩ : OpV).boxed w) fun e w' => ∃ v, e = .returned (.tuple #[.string T, v]) ∧ M v w')
    (hK : ∀ v w', M v w' → Calls Tryz.prog 48 #[v, .string ⟨#[114, 101, 97, 100]⟩, .string A] w' fun e w'' => e = .returned (.int .i64 (k : Int)) ∧ w' = w'')
    (hR : ∀ v w', M v w' → Calls Tryz.prog 63 #[Q, .string A] w' fun e w'' => e = .returned (.tuple #[.string T, .int .i64 (k : Int)]) ∧ w' = w'')
    (hM : ∀ v w', M v w' → OpBox w' w.heap.size ⟨10, A, B, n, m, pa, pn, pc, da, dn, dc, yes⟩) :
    Calls Tryz.prog 21 #[P, Q, .agg #[.int .i64 10, .string A, .string B, .int .i64 n, .int .i64 m, .slice pa pn pc, .slice da dn dc, .bool yes]] w fun e w' => e = .returned (.bool true) ∧ ∃ v, M v w' := by
  have HC := Lib.hid hC
  have HK := Lib.hid hK
  have HR := Lib.hid hR
  have HM := Lib.hid (fun v w' h => (hM v w' h).all)
  have HN := Lib.hid (rfl : w.heap.size = w.heap.size)
  clear hC hK hR hM
  go_enter Tryz.func21, Tryz.ntmps21
  go_upto_region 1 with fail
  obtain ⟨w1, hw1⟩ : ∃ x, (⟨10, A, B, n, m, pa, pn, pc, da, dn, dc, yes⟩ : OpV).boxed w = x := ⟨_, rfl⟩
  have hall := ((⟨10, A, B, n, m, pa, pn, pc, da, dn, dc, yes⟩ : OpV).box w).all
  rw [hw1] at hall HC
  unfold OpV.boxed OpV.cells at hw1
  rw [hw1]
  obtain ⟨q, hqq⟩ : ∃ q, w.heap.size = q := ⟨_, rfl⟩
  rw [hqq] at hall HM HN ⊢
  have b0 := hall.c0
  have b1 := hall.c1
  have b2 := hall.c2
  have b3 := hall.c3
  have b4 := hall.c4
  have b5 := hall.c5
  have b6 := hall.c6
  have b7 := hall.c7
  clear hall hw1 hqq
  go_wp2_with fail
  refine HC.out.mono ?_
  rintro e w2 ⟨v2, rfl, hm2⟩
  have a1 := (HM.out _ _ hm2).c1
  have a3 := (HM.out _ _ hm2).c3
  have a4 := (HM.out _ _ hm2).c4
  go_wp2_with fail
  refine (HR.out _ _ hm2).mono ?_
  rintro e w3 ⟨rfl, rfl⟩
  go_wp2_with fail
  refine (HK.out _ _ hm2).mono ?_
  rintro e w3 ⟨rfl, rfl⟩
  go_wp2_with fail
  go_ret
  exact ⟨rfl, v2, hm2⟩
set_option maxRecDepth 100000 in
set_option maxHeartbeats 4000000 in
theorem step_list (P Q : Value) (A B : ByteArray) (n m : Int) (pa : Option Addr) (pn pc : Nat) (da : Option Addr) (dn dc : Nat) (yes : Bool) (w : World)
    (hC : Calls Tryz.prog 26 #[P, Q, .string A] ((⟨11, A, B, n, m, pa, pn, pc, da, dn, dc, yes⟩ : OpV).boxed w) fun e w' => e = .returned (.bool true) ∧ N w') :
    Calls Tryz.prog 21 #[P, Q, .agg #[.int .i64 11, .string A, .string B, .int .i64 n, .int .i64 m, .slice pa pn pc, .slice da dn dc, .bool yes]] w fun e w' => e = .returned (.bool true) ∧ N w' := by
  have HC := Lib.hid hC
  have HM := Lib.hid (rfl : w.heap.size = w.heap.size)
  have HN := Lib.hid (rfl : w.heap.size = w.heap.size)
  clear hC
  go_enter Tryz.func21, Tryz.ntmps21
  go_upto_region 1 with fail
  obtain ⟨w1, hw1⟩ : ∃ x, (⟨11, A, B, n, m, pa, pn, pc, da, dn, dc, yes⟩ : OpV).boxed w = x := ⟨_, rfl⟩
  have hall := ((⟨11, A, B, n, m, pa, pn, pc, da, dn, dc, yes⟩ : OpV).box w).all
  rw [hw1] at hall HC
  unfold OpV.boxed OpV.cells at hw1
  rw [hw1]
  obtain ⟨q, hqq⟩ : ∃ q, w.heap.size = q := ⟨_, rfl⟩
  rw [hqq] at hall HM HN ⊢
  have b0 := hall.c0
  have b1 := hall.c1
  have b2 := hall.c2
  have b3 := hall.c3
  have b4 := hall.c4
  have b5 := hall.c5
  have b6 := hall.c6
  have b7 := hall.c7
  clear hall hw1 hqq
  go_wp2_with fail
  refine HC.out.mono ?_
  rintro e w2 ⟨rfl, hn2⟩
  go_wp2_with fail
  go_ret
  exact ⟨rfl, hn2⟩
set_option maxRecDepth 100000 in
set_option maxHeartbeats 4000000 in
theorem step_power (K : Int) (hK : K < 1 ∨ 11 < K) (P Q : Value) (A B : ByteArray) (n m : Int) (pa : Option Addr) (pn pc : Nat) (da : Option Addr) (dn dc : Nat) (yes : Bool) (w : World)
    (hC : Calls Tryz.prog 64 #[P, Q, .agg #[.int .i64 K, .string A, .string B, .int .i64 n, .int .i64 m, .slice pa pn pc, .slice da dn dc, .bool yes]] ((⟨K, A, B, n, m, pa, pn, pc, da, dn, dc, yes⟩ : OpV).boxed w) fun e w' => e = .returned (.bool true) ∧ N w') :
    Calls Tryz.prog 21 #[P, Q, .agg #[.int .i64 K, .string A, .string B, .int .i64 n, .int .i64 m, .slice pa pn pc, .slice da dn dc, .bool yes]] w fun e w' => e = .returned (.bool true) ∧ N w' := by
  have HC := Lib.hid hC
  have HM := Lib.hid (rfl : w.heap.size = w.heap.size)
  have HN := Lib.hid (rfl : w.heap.size = w.heap.size)
  have e1 : decide (K = 1) = false := decide_eq_false (by omega)
  have g1 : (K == 1) = false := beq_eq_false_iff_ne.2 (by omega)
  have n1 : K ≠ 1 := by omega
  have e2 : decide (K = 2) = false := decide_eq_false (by omega)
  have g2 : (K == 2) = false := beq_eq_false_iff_ne.2 (by omega)
  have n2 : K ≠ 2 := by omega
  have e3 : decide (K = 3) = false := decide_eq_false (by omega)
  have g3 : (K == 3) = false := beq_eq_false_iff_ne.2 (by omega)
  have n3 : K ≠ 3 := by omega
  have e4 : decide (K = 4) = false := decide_eq_false (by omega)
  have g4 : (K == 4) = false := beq_eq_false_iff_ne.2 (by omega)
  have n4 : K ≠ 4 := by omega
  have e5 : decide (K = 5) = false := decide_eq_false (by omega)
  have g5 : (K == 5) = false := beq_eq_false_iff_ne.2 (by omega)
  have n5 : K ≠ 5 := by omega
  have e6 : decide (K = 6) = false := decide_eq_false (by omega)
  have g6 : (K == 6) = false := beq_eq_false_iff_ne.2 (by omega)
  have n6 : K ≠ 6 := by omega
  have e7 : decide (K = 7) = false := decide_eq_false (by omega)
  have g7 : (K == 7) = false := beq_eq_false_iff_ne.2 (by omega)
  have n7 : K ≠ 7 := by omega
  have e8 : decide (K = 8) = false := decide_eq_false (by omega)
  have g8 : (K == 8) = false := beq_eq_false_iff_ne.2 (by omega)
  have n8 : K ≠ 8 := by omega
  have e9 : decide (K = 9) = false := decide_eq_false (by omega)
  have g9 : (K == 9) = false := beq_eq_false_iff_ne.2 (by omega)
  have n9 : K ≠ 9 := by omega
  have e10 : decide (K = 10) = false := decide_eq_false (by omega)
  have g10 : (K == 10) = false := beq_eq_false_iff_ne.2 (by omega)
  have n10 : K ≠ 10 := by omega
  have e11 : decide (K = 11) = false := decide_eq_false (by omega)
  have g11 : (K == 11) = false := beq_eq_false_iff_ne.2 (by omega)
  have n11 : K ≠ 11 := by omega
  clear hC hK
  go_enter Tryz.func21, Tryz.ntmps21
  go_upto_region 1 with fail
  obtain ⟨w1, hw1⟩ : ∃ x, (⟨K, A, B, n, m, pa, pn, pc, da, dn, dc, yes⟩ : OpV).boxed w = x := ⟨_, rfl⟩
  have hall := ((⟨K, A, B, n, m, pa, pn, pc, da, dn, dc, yes⟩ : OpV).box w).all
  rw [hw1] at hall HC
  unfold OpV.boxed OpV.cells at hw1
  rw [hw1]
  obtain ⟨q, hqq⟩ : ∃ q, w.heap.size = q := ⟨_, rfl⟩
  rw [hqq] at hall HM HN ⊢
  have b0 := hall.c0
  have b1 := hall.c1
  have b2 := hall.c2
  have b3 := hall.c3
  have b4 := hall.c4
  have b5 := hall.c5
  have b6 := hall.c6
  have b7 := hall.c7
  clear hall hw1 hqq
  go_wp2_with fail
  refine HC.out.mono ?_
  rintro e w2 ⟨rfl, hn2⟩
  go_wp2_with fail
  go_ret
  exact ⟨rfl, hn2⟩
end
end Go.Proofs.YtdaidbnbfjgjeaaGreatDoor
