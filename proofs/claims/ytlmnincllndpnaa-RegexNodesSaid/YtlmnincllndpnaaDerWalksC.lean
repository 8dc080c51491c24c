/- The walk of derive. -/
import Derived.Test.YtlmnincllndpnaaDerWalksB
namespace Go.Proofs.Ytlmnincllndpnaa
open Go.RowKit
open Go.ChangeMaps (setBlock)
open Go.MapKept (Stamped)
attribute [local go_sem ↓] Go.wp_at_zero Go.wp_at_succ
attribute [local go_sem] Later.cell Later.frozen

/-- Block m is a map whose keys are rests: all of A are among them, and none that S does not let in. -/
def OutIs (w : World) (m : Nat) (A : List (List Tr)) (S : List Tr → Prop) : Prop :=
  ∃ es clock, w.heap[m]? = some (.map es clock) ∧ Stamped es clock ∧ (∀ e ∈ es.toList, ∃ n, e.val = .int .i64 n) ∧ (∀ e ∈ es.toList, ∃ c, S c ∧ ChainIs w c e.key) ∧ (∀ c ∈ A, ∃ e ∈ es.toList, ChainIs w c e.key)
theorem OutIs.stay {w w' : World} {m : Nat} {A : List (List Tr)} {S : List Tr → Prop} {ex : List Nat} (h : OutIs w m A S) (hk : Kept w.heap.size ex w w') (hs : Keeps w w') (hm : m ∉ ex) : OutIs w' m A S := by
  obtain ⟨es, clock, h1, h2, h3, h4, h5⟩ := h
  have l1 : m < w.heap.size := (Array.getElem?_eq_some_iff.1 h1).1
  exact ⟨es, clock, (hk.block m l1 hm).trans h1, h2, h3, fun e he => let ⟨c, hc, hx⟩ := h4 e he; ⟨c, hc, hx.keep hs⟩, fun c hc => let ⟨e, he, hx⟩ := h5 c hc; ⟨e, he, hx.keep hs⟩⟩
theorem OutIs.below {w w' : World} {m : Nat} {A : List (List Tr)} {S : List Tr → Prop} (h : OutIs w m A S) (hb : Below w.heap.size w w') : OutIs w' m A S :=
  h.stay (ex := []) (.of_below hb) (below_keeps hb) (by simp)
theorem OutIs.less {w : World} {m : Nat} {A A' : List (List Tr)} {S : List Tr → Prop} (h : OutIs w m A S) (ha : ∀ c ∈ A', c ∈ A) : OutIs w m A' S := by
  obtain ⟨es, clock, h1, h2, h3, h4, h5⟩ := h
  exact ⟨es, clock, h1, h2, h3, h4, fun c hc => h5 c (ha c hc)⟩
theorem OutIs.isMap {w : World} {m : Nat} {A : List (List Tr)} {S : List Tr → Prop} (h : OutIs w m A S) : ∃ es clock, w.heap[m]? = some (.map es clock) := let ⟨es, clock, h1, _⟩ := h; ⟨es, clock, h1⟩
theorem DMem.keeps {w w' : World} {R M1 M2 m : Nat} {A : List (List Tr)} {S : List Tr → Prop} (h : DMem w R M1 M2) (ho : OutIs w m A S) (hk : Kept w.heap.size [M1, M2, m] w w') : Keeps w w' :=
  hk.keeps (fun x hx => by
    obtain ⟨es1, c1, h1, _⟩ := h.m1
    obtain ⟨es2, c2, h2, _⟩ := h.m2
    simp at hx
    rcases hx with rfl | rfl | rfl
    · exact ⟨_, _, h1⟩
    · exact ⟨_, _, h2⟩
    · exact ho.isMap)
theorem DMem.keeps1 {w w' : World} {R M1 M2 : Nat} (h : DMem w R M1 M2) (hk : Kept w.heap.size [M1] w w') : Keeps w w' :=
  hk.keeps (fun x hx => by
    obtain ⟨es1, c1, h1, _⟩ := h.m1
    simp at hx
    subst hx
    exact ⟨_, _, h1⟩)
theorem DMem.keeps2 {w w' : World} {R M1 M2 : Nat} (h : DMem w R M1 M2) (hk : Kept w.heap.size [M2] w w') : Keeps w w' :=
  hk.keeps (fun x hx => by
    obtain ⟨es1, c1, h1, _⟩ := h.m2
    simp at hx
    subst hx
    exact ⟨_, _, h1⟩)

theorem look_out {W : World} {m : Nat} {es : Array MapEntry} {clock : Nat} {a : Value} (hm : W.heap[m]? = some (.map es clock)) (he : ∀ e ∈ es.toList, PtrIs W e.key) (pa : PtrIs W a) :
    (Instr.lookup 60 (.map (some m)) a false).run Try.prog W = .ok (atK es a (.int .i64 0)) W :=
  look_run (fine_ptr Try.underlying62 pa) Try.underlying60 (zero_int W) hm (fun e hx => cmp_restp pa (he e hx))
theorem lay_out {W : World} {m : Nat} {A : List (List Tr)} {S : List Tr → Prop} {c : List Tr} {o : Option Addr} (h : OutIs W m A S) (hc : ChainIs W c (.pointer o)) (hS : S c) :
    ∃ n, (Instr.lookup 60 (.map (some m)) (.pointer o) false).run Try.prog W = .ok (.int .i64 n) W ∧
      ∀ n', ∃ W', (Instr.mapUpdate 60 (.map (some m)) (.pointer o) (.int .i64 n')).run Try.prog W = .ok () W' ∧ OutIs W' m (A ++ [c]) S ∧ Kept W.heap.size [m] W W' := by
  obtain ⟨es, clock, h1, h2, h3, h4, h5⟩ := h
  have hp : ∀ e ∈ es.toList, PtrIs W e.key := fun e he => let ⟨c, _, hx⟩ := h4 e he; hx.ptr
  have hl := look_out h1 hp hc.ptr
  have hat : ∃ n, atK es (.pointer o) (.int .i64 0) = .int .i64 n := by
    rcases atK_cases es (.pointer o) (.int .i64 0) with ⟨e, g1, g2, g3⟩ | ⟨_, g⟩
    · obtain ⟨n, hn⟩ := h3 e g1
      exact ⟨n, g3.trans hn⟩
    · exact ⟨0, g⟩
  obtain ⟨n, hn⟩ := hat
  rw [hn] at hl
  refine ⟨n, hl, fun n' => ?_⟩
  obtain ⟨es', clock', hrun, hlaid⟩ := lay_cases (v := .int .i64 n') (fine_ptr Try.underlying62 hc.ptr) Try.underlying60 h1 (fun e hx => cmp_restp hc.ptr (hp e hx))
  have hk := setBlock_keeps h1 (.map es' clock')
  refine ⟨_, hrun, ⟨es', clock', setBlock_same h1, hlaid.stamps h2, fun e he => ?_, fun e he => ?_, fun c' hc' => ?_⟩, (Kept.refl _ _ _).setBlock (.inl (by simp)) _⟩
  · rcases hlaid.olds e he with g | ⟨_, g⟩
    · exact h3 e g
    · exact ⟨n', g⟩
  · rcases hlaid.olds e he with g | ⟨g, _⟩
    · obtain ⟨c', g1, g2⟩ := h4 e g
      exact ⟨c', g1, g2.keep hk⟩
    · exact ⟨c, hS, by rw [g]; exact hc.keep hk⟩
  · rcases List.mem_append.1 hc' with g | g
    · obtain ⟨e, g1, g2⟩ := h5 c' g
      obtain ⟨e', g3, g4⟩ := hlaid.keys e g1
      exact ⟨e', g3, by rw [g4]; exact g2.keep hk⟩
    · simp at g
      subst g
      obtain ⟨e', g3, g4, _⟩ := hlaid.new
      exact ⟨e', g3, by rw [g4]; exact hc.keep hk⟩

def DeriveOut (w : World) (R M1 M2 m : Nat) (A : List (List Tr)) (S : List Tr → Prop) (e : Ending) (w' : World) : Prop :=
  e = .returned (.tuple #[]) ∧ DMem w' R M1 M2 ∧ OutIs w' m A S ∧ Kept w.heap.size [M1, M2, m] w w'
def DeriveOk (t : Tr) : Prop := ∀ (c : List Tr) (p : Nat) (o : Option Addr) (R M1 M2 m : Nat) (b : UInt8) (A : List (List Tr)) (S : List Tr → Prop) (w : World), DMem w R M1 M2 → TreeIs w t p → ChainIs w c (.pointer o) → OutIs w m A S → m ≠ M1 → m ≠ M2 → (∀ k ∈ Dv t c b, S k) →
  Calls Try.prog 39 #[.pointer (some ⟨R, 0, none⟩), .pointer (some ⟨p, 0, none⟩), .pointer o, .int .u8 b.toNat, .map (some m)] w (DeriveOut w R M1 M2 m (A ++ Dv t c b) S)

set_option maxRecDepth 100000 in
set_option maxHeartbeats 1000000 in
theorem derive_empty : DeriveOk .empty := by
  intro c p o R M1 M2 m b A S w hd ht hc ho n1 n2 hS
  have c0 : _ = some (Value.int .i64 0) := Blk.cell ht 0
  go_enter Try.func39, Try.ntmps39
  go_wp2_with fail
  go_end0
  exact ⟨rfl, hd, by simpa [Dv] using ho, Kept.refl _ _ _⟩

set_option maxRecDepth 100000 in
set_option maxHeartbeats 1000000 in
theorem derive_cls (v : Nat) : DeriveOk (.cls v) := by
  intro c p o R M1 M2 m b A S w hd ht hc ho n1 n2 hS
  have c0 : _ = some (Value.int .i64 1) := Blk.cell ht.2 0
  have c1 : _ = some (Value.int .u64 (word v 0)) := Blk.cell ht.2 1
  have c2 : _ = some (Value.int .u64 (word v 1)) := Blk.cell ht.2 2
  have c3 : _ = some (Value.int .u64 (word v 2)) := Blk.cell ht.2 3
  have c4 : _ = some (Value.int .u64 (word v 3)) := Blk.cell ht.2 4
  obtain ⟨x, hx⟩ : ∃ x, v.testBit b.toNat = x := ⟨_, rfl⟩
  have HX := Lib.hid hx
  have hdv : Dv (.cls v) c b = if x then [c] else [] := by rw [Dv, hx]
  have HDV := Lib.hid hdv
  rw [hdv] at hS
  have hcall := has_calls v b.toNat (UInt8.toNat_lt b) w
  rw [hx] at hcall
  unfold setVal at hcall
  have HC := Lib.hid hcall
  clear hx hdv hcall
  go_enter Try.func39, Try.ntmps39
  go_wp2_with fail
  refine HC.out.mono ?_
  rintro e w1 ⟨rfl, hb1⟩
  have hd1 := hd.below hb1
  have ho1 := ho.below hb1
  have hc1 := hc.keep (below_keeps hb1)
  cases x with
  | false =>
    go_wp2_with fail
    go_end0
    exact ⟨rfl, hd1, by rw [HDV.out]; simpa using ho1, .of_below hb1⟩
  | true =>
    obtain ⟨n, hl, hu⟩ := lay_out ho1 hc1 (hS c (by simp))
    obtain ⟨w2, hu2, ho2, hk2⟩ := hu (wrap64 (n + 1))
    have hs2 := hk2.keeps (fun x hx => by simp at hx; subst hx; exact ho1.isMap)
    have hd2 := hd1.stay hk2 hs2 (by simpa using n1.symm) (by simpa using n2.symm)
    clear hu
    go_wp2_with fail
    go_end0
    exact ⟨rfl, hd2, by rw [HDV.out]; simpa using ho2, (Kept.of_below hb1).trans (hk2.mono hb1.size (fun k _ h => by simp at h; simp [h]))⟩

theorem Kept.into {B : Nat} {ex ex' : List Nat} {w w' : World} (h : Kept B ex w w') {B' : Nat} (hB : B' ≤ B) (hx : ∀ k ∈ ex, k ∈ ex') : Kept B' ex' w w' := h.mono hB (fun k _ hk => hx k hk)

set_option maxRecDepth 100000 in
set_option maxHeartbeats 1000000 in
theorem derive_alt (x y : Tr) (ihx : DeriveOk x) (ihy : DeriveOk y) : DeriveOk (.alt x y) := by
  intro c p o R M1 M2 m b A S w hd ht hc ho n1 n2 hS
  obtain ⟨k, pa, pb, ha, hb, hk, hp⟩ := ht
  have c0 : _ = some (Value.int .i64 3) := Blk.cell hp 0
  have c5 : _ = some (Value.slice (some ⟨k, 0, none⟩) 2 2) := Blk.cell hp 5
  have k0 : _ = some (Value.pointer (some ⟨pa, 0, none⟩)) := Blk.cell hk 0
  have HX := Lib.hid ihx
  have HY := Lib.hid ihy
  have hSx : ∀ k ∈ Dv x c b, S k := fun k hk => hS k (by rw [Dv]; exact List.mem_append.2 (.inl hk))
  have hSy : ∀ k ∈ Dv y c b, S k := fun k hk => hS k (by rw [Dv]; exact List.mem_append.2 (.inr hk))
  clear hS
  go_enter Try.func39, Try.ntmps39
  go_wp2_with fail
  refine (HX.out c pa o R M1 M2 m b A S w hd ha hc ho n1 n2 hSx).mono ?_
  rintro e w1 ⟨rfl, hd1, ho1, hk1⟩
  have hs1 := hd.keeps ho hk1
  have hp1 := hs1 _ _ _ hp
  have hkk1 := hs1 _ _ _ hk
  have d5 : _ = some (Value.slice (some ⟨k, 0, none⟩) 2 2) := Blk.cell hp1 5
  have e1 : _ = some (Value.pointer (some ⟨pb, 0, none⟩)) := Blk.cell hkk1 1
  go_wp2_with fail
  refine (HY.out c pb o R M1 M2 m b _ S w1 hd1 (hb.keep hs1) (hc.keep hs1) ho1 n1 n2 hSy).mono ?_
  rintro e w2 ⟨rfl, hd2, ho2, hk2⟩
  go_wp2_with fail
  go_end0
  exact ⟨rfl, hd2, by rw [Dv, ← List.append_assoc]; exact ho2, hk1.trans (hk2.into hk1.size (fun _ h => h))⟩

set_option maxRecDepth 100000 in
set_option maxHeartbeats 1000000 in
theorem derive_quest (x : Tr) (ihx : DeriveOk x) : DeriveOk (.quest x) := by
  intro c p o R M1 M2 m b A S w hd ht hc ho n1 n2 hS
  obtain ⟨k, pa, ha, hk, hp⟩ := ht
  have c0 : _ = some (Value.int .i64 6) := Blk.cell hp 0
  have c5 : _ = some (Value.slice (some ⟨k, 0, none⟩) 1 1) := Blk.cell hp 5
  have k0 : _ = some (Value.pointer (some ⟨pa, 0, none⟩)) := Blk.cell hk 0
  have HX := Lib.hid ihx
  go_enter Try.func39, Try.ntmps39
  go_wp2_with fail
  refine (HX.out c pa o R M1 M2 m b A S w hd ha hc ho n1 n2 hS).mono ?_
  rintro e w1 ⟨rfl, hd1, ho1, hk1⟩
  go_wp2_with fail
  go_end0
  exact ⟨rfl, hd1, ho1, hk1⟩

set_option maxRecDepth 100000 in
set_option maxHeartbeats 1000000 in
theorem derive_star (x : Tr) (ihx : DeriveOk x) : DeriveOk (.star x) := by
  intro c p o R M1 M2 m b A S w hd ht hc ho n1 n2 hS
  have ht' := ht
  obtain ⟨k, pa, ha, hk, hp⟩ := ht
  have c0 : _ = some (Value.int .i64 4) := Blk.cell hp 0
  have HX := Lib.hid ihx
  go_enter Try.func39, Try.ntmps39
  go_wp2_with fail
  refine (rest_calls (.star x) c p o R M1 M2 w hd ht' hc).mono ?_
  rintro e w1 ⟨q, rfl, hq, hd1, hk1⟩
  have hs1 := hd.keeps1 hk1
  have hp1 := hs1 _ _ _ hp
  have hkk1 := hs1 _ _ _ hk
  have ho1 := ho.stay hk1 hs1 (by simpa using n1)
  have d5 : _ = some (Value.slice (some ⟨k, 0, none⟩) 1 1) := Blk.cell hp1 5
  have e1 : _ = some (Value.pointer (some ⟨pa, 0, none⟩)) := Blk.cell hkk1 0
  go_wp2_with fail
  refine (HX.out (.star x :: c) pa (some ⟨q, 0, none⟩) R M1 M2 m b A S w1 hd1 (ha.keep hs1) hq ho1 n1 n2 hS).mono ?_
  rintro e w2 ⟨rfl, hd2, ho2, hk2⟩
  go_wp2_with fail
  go_end0
  exact ⟨rfl, hd2, ho2, (hk1.into (Nat.le_refl _) (fun k h => by simp at h; simp [h])).trans (hk2.into hk1.size (fun _ h => h))⟩

set_option maxRecDepth 100000 in
set_option maxHeartbeats 1000000 in
theorem derive_plus (x : Tr) (ihx : DeriveOk x) : DeriveOk (.plus x) := by
  intro c p o R M1 M2 m b A S w hd ht hc ho n1 n2 hS
  have ht' := ht
  obtain ⟨k0, pa0, ha0, hk0, hp⟩ := ht
  have c0 : _ = some (Value.int .i64 5) := Blk.cell hp 0
  have HX := Lib.hid ihx
  go_enter Try.func39, Try.ntmps39
  go_wp2_with fail
  refine (star_calls x p R M1 M2 w hd ht').mono ?_
  rintro e w0 ⟨p', rfl, htS, hd0, hk0'⟩
  have hs0 := hd.keeps2 hk0'
  have ho0 := ho.stay hk0' hs0 (by simpa using n2)
  have hc0 := hc.keep hs0
  have htS' := htS
  obtain ⟨k, pa, ha, hk, hp'⟩ := htS
  clear c0
  go_wp2_with fail
  refine (rest_calls (.star x) c p' o R M1 M2 w0 hd0 htS' hc0).mono ?_
  rintro e w1 ⟨q, rfl, hq, hd1, hk1⟩
  have hs1 := hd0.keeps1 hk1
  have hp1 := hs1 _ _ _ hp'
  have hkk1 := hs1 _ _ _ hk
  have ho1 := ho0.stay hk1 hs1 (by simpa using n1)
  have d5 : _ = some (Value.slice (some ⟨k, 0, none⟩) 1 1) := Blk.cell hp1 5
  have e1 : _ = some (Value.pointer (some ⟨pa, 0, none⟩)) := Blk.cell hkk1 0
  go_wp2_with fail
  refine (HX.out (.star x :: c) pa (some ⟨q, 0, none⟩) R M1 M2 m b A S w1 hd1 (ha.keep hs1) hq ho1 n1 n2 hS).mono ?_
  rintro e w2 ⟨rfl, hd2, ho2, hk2⟩
  go_wp2_with fail
  go_end0
  have h01 : Kept w.heap.size [M1, M2, m] w w1 := (hk0'.into (Nat.le_refl _) (fun k h => by simp at h; simp [h])).trans (hk1.into hk0'.size (fun k h => by simp at h; simp [h]))
  exact ⟨rfl, hd2, ho2, h01.trans (hk2.into h01.size (fun _ h => h))⟩
end Go.Proofs.Ytlmnincllndpnaa
