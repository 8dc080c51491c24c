/- Merged: RdkMem2, RdkWalksD. -/
import Derived.Test.YtdaidbnbfjgjeaaGreatDoorDsa15
import Derived.Deep.Onto
import Derived.Test.YtdaidbnbfjgjeaaGreatDoorDsa17
set_option linter.unusedVariables false
set_option linter.unusedSimpArgs false
/-! ## RdkMem2 -/
/- Layer 3 (disk): the document's disk turned: new things, a step more, a file more, a file's bytes. -/
namespace Go.Proofs.YtdaidbnbfjgjeaaGreatDoor
open Go.RowKit

section
variable {w w' : World} {R R' : Nat → Nat} {B0 : Nat} {A A' : RAdr} {d d' : Ds}

/-- A row of one's own gets its role. -/
theorem RD.give_row (h : RD B0 w R A d) {w2 : World} {T : TypeId} {sz n : Nat} {v : Value} {xs : List Value} (hb : Below w.heap.size w w2) (hv : w2.ownsRow w.heap.size T sz v n xs) (hB : B0 ≤ w.heap.size) (r : Nat) :
    RD B0 w2 (rowR R v r) A d ∧ Own R (rowR R v r) w w2 ∧ RowIs w2 (rowR R v r) r T sz v n xs := by
  have hold : ∀ k, k < w.heap.size → rowR R v r k = R k := fun k hk => by
    unfold rowR
    rw [if_neg]
    intro e
    have := (World.ownsRow.lt hv k e).1
    omega
  refine ⟨h.same (fun k hk => ⟨hb.block k (h.inw k hk), hold k (h.inw k hk)⟩) (fun k hk => ?_) (fun k hk => (hold k (by omega)).trans (h.low k hk)), ⟨hb.os, hb.tape, hb.output, hb.size, fun k hk _ => hb.block k hk, hold⟩, World.ownsRow.mono hv (Nat.zero_le _), fun g hg => by simp [rowR, hg]⟩
  unfold rowR at hk
  split at hk
  · rename_i e
    exact (World.ownsRow.lt hv k e).2
  · exact Nat.lt_of_lt_of_le (h.inw k hk) hb.size

/-- The disk's own block alone has turned: what it points at is as before. -/
theorem RD.reblk (h : RD B0 w R A d) (hw : ∀ k, k < w.heap.size → k ≠ A.q → w'.heap[k]? = w.heap[k]?) (hs : w.heap.size ≤ w'.heap.size) (hb : RBlk w' A' d') (hq : A'.q = A.q)
    (ht : ThsM w R A'.tv d'.things) (hsf : ThsM w R A'.sv d'.safe) (hg : RowIs w R 3 115 4 A'.gv d'.steps.length (d'.steps.flatMap encS)) (hfv : A'.fv = A.fv) (hvs : A'.vs = A.vs) (hf : d'.files = d.files) : RD B0 w' R A' d' := by
  have key : ∀ k, R k ≠ 0 → R k ≠ 1 → w'.heap[k]? = w.heap[k]? ∧ R k = R k := fun k hk h1 => ⟨hw k (h.inw k hk) (fun e => h1 (by rw [e]; exact h.rq)), rfl⟩
  exact {
    blk := hb
    rq := by rw [hq]; exact h.rq
    things := ht.same fun k _ hk => key k (by omega) (by omega)
    safe := hsf.same fun k _ hk => key k (by omega) (by omega)
    steps := hg.same fun k _ hk => key k (by omega) (by omega)
    files := by rw [hf, hfv, hvs]; exact h.files.same fun k _ hk => key k (by omega) (by omega)
    vl := by rw [hf, hvs]; exact h.vl
    bytes := by rw [hf, hvs]; exact fun i f v hf hv => (h.bytes i f v hf hv).same fun k _ hk => key k (by omega) (by omega)
    inw := h.inw.mono hs
    low := h.low }
theorem RBlk.setA (w : World) {i : Nat} {u : Value} (h : RBlk w A d) (hq : A'.q = A.q) (he : (#[A.tv, A.sv, A.gv, A.fv, .int .i64 (d.cap : Int), .bool d.off, .int .i64 (d.await : Int)] : Array Value).setIfInBounds i u = #[A'.tv, A'.sv, A'.gv, A'.fv, .int .i64 (d'.cap : Int), .bool d'.off, .int .i64 (d'.await : Int)]) : RBlk (w.setCell ⟨A.q, i, none⟩ u) A' d' := by
  have := Blk.set_ h i u
  rw [he] at this
  unfold RBlk
  rw [hq]
  exact this
theorem setCell_rest (w : World) (p : Addr) (u : Value) : ∀ k, k < w.heap.size → k ≠ p.block → (w.setCell p u).heap[k]? = w.heap[k]? := fun k _ hk => Below.heap_setCell _ _ _ k hk
/-- The things are others. -/
theorem RD.set_things (h : RD B0 w R A d) {v : Value} {l : List Th} (hv : ThsM w R v l) : RD B0 (w.setCell ⟨A.q, 0, none⟩ v) R { A with tv := v } { d with things := l } :=
  h.reblk (A' := { A with tv := v }) (d' := { d with things := l }) (fun k _ hk => Below.heap_setCell _ _ _ k hk) (by simp [World.setCell]) (RBlk.setA w h.blk rfl rfl) rfl hv h.safe h.steps rfl rfl rfl
theorem RD.q_own (h : RD B0 w R A d) : R A.q ≠ 0 := by rw [h.rq]; omega
/-- All names are safe. -/
theorem RD.set_safe (h : RD B0 w R A d) : RD B0 ((w.setCell ⟨A.q, 1, none⟩ A.tv).setCell ⟨A.q, 2, none⟩ (.slice none 0 0)) R { A with sv := A.tv, gv := .slice none 0 0 } { d with safe := d.things, steps := [] } ∧ Own R R w ((w.setCell ⟨A.q, 1, none⟩ A.tv).setCell ⟨A.q, 2, none⟩ (.slice none 0 0)) := by
  have h1 : RD B0 (w.setCell ⟨A.q, 1, none⟩ A.tv) R { A with sv := A.tv } { d with safe := d.things } :=
    h.reblk (A' := { A with sv := A.tv }) (d' := { d with safe := d.things }) (fun k _ hk => Below.heap_setCell _ _ _ k hk) (by simp [World.setCell]) (RBlk.setA w h.blk rfl rfl) rfl h.things h.things h.steps rfl rfl rfl
  refine ⟨?_, (Own.of_set _ h.q_own).trans (Own.of_set _ h.q_own)⟩
  exact h1.reblk (A' := { A with sv := A.tv, gv := .slice none 0 0 }) (d' := { d with safe := d.things, steps := [] }) (fun k _ hk => Below.heap_setCell _ _ _ k hk) (by simp [World.setCell]) (RBlk.setA (A := { A with sv := A.tv }) (d := { d with safe := d.things }) _ h1.blk rfl rfl) rfl h1.things h1.safe RowIs.nil rfl rfl rfl
/-- A restart's end. -/
theorem RD.set_all (h : RD B0 w R A d) {v : Value} {l : List Th} (hv : ThsM w R v l) :
    RD B0 (((((w.setCell ⟨A.q, 0, none⟩ v).setCell ⟨A.q, 1, none⟩ v).setCell ⟨A.q, 2, none⟩ (.slice none 0 0)).setCell ⟨A.q, 5, none⟩ (.bool false)).setCell ⟨A.q, 6, none⟩ (.int .i64 0)) R { A with tv := v, sv := v, gv := .slice none 0 0 } { d with things := l, safe := l, steps := [], off := false, await := 0 } ∧
    Own R R w (((((w.setCell ⟨A.q, 0, none⟩ v).setCell ⟨A.q, 1, none⟩ v).setCell ⟨A.q, 2, none⟩ (.slice none 0 0)).setCell ⟨A.q, 5, none⟩ (.bool false)).setCell ⟨A.q, 6, none⟩ (.int .i64 0)) := by
  have h1 := h.set_things hv
  have h2 := h1.set_safe.1
  refine ⟨?_, ((((Own.of_set _ h.q_own).trans (Own.of_set _ h.q_own)).trans (Own.of_set _ h.q_own)).trans (Own.of_set _ h.q_own)).trans (Own.of_set _ h.q_own)⟩
  have h3 : RD B0 _ R { A with tv := v, sv := v, gv := .slice none 0 0 } { d with things := l, safe := l, steps := [], off := false } :=
    h2.reblk (A' := { A with tv := v, sv := v, gv := .slice none 0 0 }) (d' := { d with things := l, safe := l, steps := [], off := false }) (fun k _ hk => Below.heap_setCell _ _ _ k hk) (by simp [World.setCell]) (RBlk.setA (A := { A with tv := v, sv := v, gv := .slice none 0 0 }) (d := { d with things := l, safe := l, steps := [] }) _ h2.blk rfl (i := 5) (u := .bool false) rfl) rfl h2.things h2.safe h2.steps rfl rfl rfl
  exact h3.reblk (A' := { A with tv := v, sv := v, gv := .slice none 0 0 }) (d' := { d with things := l, safe := l, steps := [], off := false, await := 0 }) (fun k _ hk => Below.heap_setCell _ _ _ k hk) (by simp [World.setCell]) (RBlk.setA (A := { A with tv := v, sv := v, gv := .slice none 0 0 }) (d := { d with things := l, safe := l, steps := [], off := false }) _ h3.blk rfl (i := 6) (u := .int .i64 0) rfl) rfl h3.things h3.safe h3.steps rfl rfl rfl

/-- A step more. -/
theorem RD.step_more (h : RD B0 w R A d) (s : St) {v' : Value} {w2 : World} (hg : w.grownBy w2 A.gv.ownBlock) (hrow : w2.ownsRow 0 115 4 v' (d.steps.length + 1) (d.steps.flatMap encS ++ encS s)) (hat : v'.ownBlock = A.gv.ownBlock ∨ ∃ g, v'.ownBlock = some g ∧ w.heap.size ≤ g) (hB : B0 ≤ w.heap.size) :
    RD B0 (w2.setCell ⟨A.q, 2, none⟩ v') (rowR R v' 3) { A with gv := v' } { d with steps := d.steps ++ [s] } ∧ Own R (rowR R v' 3) w (w2.setCell ⟨A.q, 2, none⟩ v') := by
  have hv := h.steps.2
  have hold : ∀ k, k < w.heap.size → rowR R v' 3 k = R k := fun k hk => rowR_old hv hat hk
  have hpl := Blk.lt h.blk
  have key : ∀ k, R k ≠ 0 → R k ≠ 1 → R k ≠ 3 → (w2.setCell ⟨A.q, 2, none⟩ v').heap[k]? = w.heap[k]? ∧ rowR R v' 3 k = R k := by
    intro k hk h1 h7
    have hkl := h.inw k hk
    refine ⟨(Below.heap_setCell _ _ _ k (fun e => h1 (by rw [e]; exact h.rq))).trans (hg.block k hkl (fun e => h7 (hv k e.symm))), hold k hkl⟩
  have hpv : v'.ownBlock ≠ some A.q := by
    intro e
    rcases hat with h1 | ⟨g, h1, h2⟩
    · rw [h1] at e
      have := hv _ e
      have := h.rq
      omega
    · rw [h1] at e
      injection e with e
      omega
  have hpS : some A.q ≠ A.gv.ownBlock := by
    intro e
    have := hv _ e.symm
    have := h.rq
    omega
  have hblk2 : Blk w2 A.q _ _ := Blk.grown h.blk hg hpS
  have hsz2 : (w2.setCell ⟨A.q, 2, none⟩ v').heap.size = w2.heap.size := by simp [World.setCell]
  refine ⟨{
    blk := hblk2.set_ 2 v'
    rq := (hold _ hpl).trans h.rq
    things := h.things.same fun k _ hk => key k (by omega) (by omega) (by omega)
    safe := h.safe.same fun k _ hk => key k (by omega) (by omega) (by omega)
    steps := ?_
    files := h.files.same fun k _ hk => key k (by omega) (by omega) (by omega)
    vl := h.vl
    bytes := fun i f v hf hv' => (h.bytes i f v hf hv').same fun k _ hk => key k (by omega) (by omega) (by omega)
    inw := ?_
    low := fun k hk => (hold k (by omega)).trans (h.low k hk) }, ?_⟩
  · refine ⟨?_, fun g hg' => by simp [rowR, hg']⟩
    simp only [List.length_append, List.flatMap_append, List.length_singleton, List.flatMap_singleton]
    exact ownsRow_setCell_other hrow (a := ⟨A.q, 2, none⟩) hpv _
  · intro k hk
    rw [hsz2]
    unfold rowR at hk
    split at hk
    · rename_i e
      exact (World.ownsRow.lt hrow k e).2
    · exact Nat.lt_of_lt_of_le (h.inw k hk) hg.size
  · exact ⟨hg.os, hg.tape, hg.output, by rw [hsz2]; exact hg.size, fun k hk hr => (Below.heap_setCell _ _ _ k (fun e => h.q_own (by rw [← show k = A.q from e]; exact hr))).trans (hg.block k hk (fun e => by have := hv k e.symm; omega)), hold⟩

/-! ### the row of the files -/
theorem rowB_nil : rowB [] [] = [] := rfl
theorem rowB_cons (f : By) (fs : List By) (v : Value) (vs : List Value) : rowB (f :: fs) (v :: vs) = encB f v ++ rowB fs vs := rfl
theorem rowB_append : ∀ {fs : List By} {vs : List Value} (f : By) (v : Value), vs.length = fs.length → rowB (fs ++ [f]) (vs ++ [v]) = rowB fs vs ++ encB f v
  | [], [], f, v, _ => by simp [rowB]
  | _ :: fs, [], _, _, h => by simp at h
  | [], _ :: _, _, _, h => by simp at h
  | g :: fs, u :: vs, f, v, h => by
    rw [List.cons_append, List.cons_append, rowB_cons, rowB_append f v (by simpa using h), rowB_cons, List.append_assoc]
theorem rowB_at : ∀ {fs : List By} {vs : List Value} {i : Nat} {f : By} {v : Value} (j : Nat), fs[i]? = some f → vs[i]? = some v → j < 3 → (rowB fs vs)[i * 3 + j]? = (encB f v)[j]?
  | [], _, _, _, _, _, h, _, _ => by simp at h
  | _ :: _, [], _, _, _, _, _, h, _ => by simp at h
  | g :: fs, u :: vs, 0, f, v, j, h1, h2, hj => by
    simp at h1 h2
    subst h1 h2
    rw [rowB_cons, Nat.zero_mul, Nat.zero_add, List.getElem?_append_left (by simpa [encB] using hj)]
  | g :: fs, u :: vs, i + 1, f, v, j, h1, h2, hj => by
    rw [rowB_cons, List.getElem?_append_right (by simp [encB]; omega)]
    rw [show (i + 1) * 3 + j - (encB g u).length = i * 3 + j by simp [encB]; omega]
    exact rowB_at j (by simpa using h1) (by simpa using h2) hj
theorem rowB_set : ∀ {fs : List By} {vs : List Value} {i : Nat} (f : By) (v : Value), vs.length = fs.length → i < fs.length →
    rowB (fs.set i f) (vs.set i v) = (((rowB fs vs).set (i * 3) (txtV f.now)).set (i * 3 + 1) (txtV f.safe)).set (i * 3 + 2) v
  | [], _, _, _, _, _, h => by simp at h
  | _ :: _, [], _, _, _, h, _ => by simp at h
  | g :: fs, u :: vs, 0, f, v, h, _ => by simp [rowB_cons, encB]
  | g :: fs, u :: vs, i + 1, f, v, h, hi => by
    have e : ∀ (j : Nat) (x : Value) (l : List Value), (encB g u ++ l).set ((i + 1) * 3 + j) x = encB g u ++ l.set (i * 3 + j) x := fun j x l => by
      rw [List.set_append_right _ _ (by simp [encB]; omega), show (i + 1) * 3 + j - (encB g u).length = i * 3 + j by simp [encB]; omega]
    have e0 : ∀ (x : Value) (l : List Value), (encB g u ++ l).set ((i + 1) * 3) x = encB g u ++ l.set (i * 3) x := fun x l => e 0 x l
    rw [List.set_cons_succ, List.set_cons_succ, rowB_cons, rowB_set f v (by simpa using h) (by simpa using hi), rowB_cons, e0, e, e]
theorem RD.file_at (h : RD B0 w R A d) {i : Nat} (hi : i < d.files.length) : ∃ g c v, A.fv = .slice (some ⟨g, 0, none⟩) d.files.length c ∧ R g = 4 ∧ g < w.heap.size ∧ d.files.length ≤ c ∧ A.vs[i]? = some v ∧
    w.cell? ⟨g, i * 3, none⟩ = some (txtV (fAt d i).now) ∧ w.cell? ⟨g, i * 3 + 1, none⟩ = some (txtV (fAt d i).safe) ∧ w.cell? ⟨g, i * 3 + 2, none⟩ = some v ∧ ChsM w R i v (fAt d i).steps ∧ ∀ j, w.frozen? ⟨g, j, none⟩ = false := by
  obtain ⟨v, hv⟩ : ∃ v, A.vs[i]? = some v := ⟨_, List.getElem?_eq_getElem (by rw [h.vl]; exact hi)⟩
  have hf : d.files[i]? = some (fAt d i) := by unfold fAt; rw [List.getElem?_eq_getElem hi]; rfl
  rcases h.files.1.2 with ⟨_, h0⟩ | ⟨g, c, cur, hfv, _, _, hnc, _⟩
  · omega
  · have hown := h.files.1
    rw [hfv] at hown
    have key : ∀ j, j < 3 → w.cell? ⟨g, i * 3 + j, none⟩ = (encB (fAt d i) v)[j]? := fun j hj => by
      rw [World.ownsRow.cellAt hown _ (by omega)]
      exact rowB_at j hf hv hj
    exact ⟨g, c, v, hfv, h.files.2 g (by rw [hfv]; rfl), (World.ownsRow.lt h.files.1 g (by rw [hfv]; rfl)).2, hnc, hv, key 0 (by omega), key 1 (by omega), key 2 (by omega), h.bytes i _ v hf hv, fun j => World.ownsRow.frozenAt hown j⟩
/-- A file's bytes, or its row of steps, have turned. -/
theorem RD.file_turn (h : RD B0 w R A d) {i : Nat} {f : By} {v : Value} (hi : i < d.files.length) (hs : ∀ k, R k ≠ 0 → R k ≠ 4 → R k ≠ 10 + i → w'.heap[k]? = w.heap[k]? ∧ R' k = R k) (h4 : ∀ k, R k = 4 → R' k = 4)
    (hfv : w'.ownsRow 0 119 3 A.fv d.files.length (rowB (d.files.set i f) (A.vs.set i v))) (hc : ChsM w' R' i v f.steps) (hw : InW R' w') (hl : ∀ k, k < B0 → R' k = 0) :
    RD B0 w' R' { A with vs := A.vs.set i v } (setF d i f) where
  blk := ((hs A.q (by rw [h.rq]; omega) (by rw [h.rq]; omega) (by rw [h.rq]; omega)).1).trans h.blk
  rq := ((hs A.q (by rw [h.rq]; omega) (by rw [h.rq]; omega) (by rw [h.rq]; omega)).2).trans h.rq
  things := h.things.same fun k _ hk => hs k (by omega) (by omega) (by omega)
  safe := h.safe.same fun k _ hk => hs k (by omega) (by omega) (by omega)
  steps := h.steps.same fun k _ hk => hs k (by omega) (by omega) (by omega)
  files := by
    refine ⟨?_, fun g hg => h4 g (h.files.2 g hg)⟩
    simp only [setF, List.length_set]
    exact hfv
  vl := by simp [setF, h.vl]
  bytes := by
    intro j g u hg hu
    simp only [setF] at hg
    by_cases e : j = i
    · subst e
      rw [List.getElem?_set_self (by simpa using hi)] at hg
      rw [List.getElem?_set_self (by rw [h.vl]; simpa using hi)] at hu
      injection hg with hg
      injection hu with hu
      subst hg hu
      exact hc
    · rw [List.getElem?_set_ne (Ne.symm e)] at hg hu
      exact (h.bytes j g u hg hu).same fun k _ hk => hs k (by omega) (by omega) (by omega)
  inw := hw
  low := hl
/-- A file's bytes are all others, its steps are none. -/
theorem RD.file_plain (h : RD B0 w R A d) {i g c : Nat} (hi : i < d.files.length) (hfv : A.fv = .slice (some ⟨g, 0, none⟩) d.files.length c) (s : Txt) :
    RD B0 (((w.setCell ⟨g, i * 3, none⟩ (txtV s)).setCell ⟨g, i * 3 + 1, none⟩ (txtV s)).setCell ⟨g, i * 3 + 2, none⟩ (.slice none 0 0)) R { A with vs := A.vs.set i (.slice none 0 0) } (setF d i ⟨s, s, []⟩) ∧
    Own R R w (((w.setCell ⟨g, i * 3, none⟩ (txtV s)).setCell ⟨g, i * 3 + 1, none⟩ (txtV s)).setCell ⟨g, i * 3 + 2, none⟩ (.slice none 0 0)) := by
  have hg4 : R g = 4 := h.files.2 g (by rw [hfv]; rfl)
  have hown := h.files.1
  rw [hfv] at hown
  have s1 := (World.ownsRow.stored hown (i * 3) (txtV s)).1
  have s2 := (World.ownsRow.stored s1 (i * 3 + 1) (txtV s)).1
  have s3 := (World.ownsRow.stored s2 (i * 3 + 2) (.slice none 0 0)).1
  have e := rowB_set (fs := d.files) (vs := A.vs) (⟨s, s, []⟩ : By) (.slice none 0 0) h.vl hi
  simp only at e
  rw [← e] at s3
  refine ⟨h.file_turn (f := ⟨s, s, []⟩) (v := .slice none 0 0) hi (fun k _ h4 _ => ⟨?_, rfl⟩) (fun _ hk => hk) (by rw [hfv]; exact s3) RowIs.nil (h.inw.mono (by simp [World.setCell])) h.low, ?_⟩
  · have hk : k ≠ g := fun e => h4 (by rw [e]; exact hg4)
    exact ((Below.heap_setCell _ _ _ k hk).trans (Below.heap_setCell _ _ _ k hk)).trans (Below.heap_setCell _ _ _ k hk)
  · have hg0 : R g ≠ 0 := by omega
    exact ((Own.of_set _ hg0).trans (Own.of_set _ hg0)).trans (Own.of_set _ hg0)
/-- A file's bytes are others, a step is put behind its steps. -/
theorem RD.file_step (h : RD B0 w R A d) {i g c : Nat} {v v' : Value} {N : Txt} {s : Ch} {w2 : World} (hi : i < d.files.length) (hfv : A.fv = .slice (some ⟨g, 0, none⟩) d.files.length c) (hv : A.vs[i]? = some v) (hcv : ChsM w R i v (fAt d i).steps)
    (hgr : (w.setCell ⟨g, i * 3, none⟩ (txtV N)).grownBy w2 v.ownBlock) (hrow : w2.ownsRow 0 149 3 v' ((fAt d i).steps.length + 1) ((fAt d i).steps.flatMap encCh ++ encCh s)) (hat : v'.ownBlock = v.ownBlock ∨ ∃ g, v'.ownBlock = some g ∧ w.heap.size ≤ g) (hB : B0 ≤ w.heap.size) :
    RD B0 (w2.setCell ⟨g, i * 3 + 2, none⟩ v') (rowR R v' (10 + i)) { A with vs := A.vs.set i v' } (setF d i { fAt d i with now := N, steps := (fAt d i).steps ++ [s] }) ∧ Own R (rowR R v' (10 + i)) w (w2.setCell ⟨g, i * 3 + 2, none⟩ v') := by
  have hg4 : R g = 4 := h.files.2 g (by rw [hfv]; rfl)
  have hown := h.files.1
  have hgl := (World.ownsRow.lt h.files.1 g (by rw [hfv]; rfl)).2
  rw [hfv] at hown
  have hvb : ∀ k, v.ownBlock = some k → R k = 10 + i := hcv.2
  have hold : ∀ k, k < w.heap.size → rowR R v' (10 + i) k = R k := fun k hk => rowR_old hvb hat hk
  have hsz1 : (w.setCell ⟨g, i * 3, none⟩ (txtV N)).heap.size = w.heap.size := by simp [World.setCell]
  have s1 := (World.ownsRow.stored hown (i * 3) (txtV N)).1
  have hgv : (Value.slice (some ⟨g, 0, none⟩) d.files.length c).ownBlock ≠ v.ownBlock := by
    intro e
    have := hvb g e.symm
    omega
  have s2 := s1.kept hgr (.inr hgv)
  have s3 := (World.ownsRow.stored s2 (i * 3 + 2) v').1
  have hf : d.files[i]? = some (fAt d i) := by unfold fAt; rw [List.getElem?_eq_getElem hi]; rfl
  have e := rowB_set (fs := d.files) (vs := A.vs) ({ fAt d i with now := N, steps := (fAt d i).steps ++ [s] } : By) v' h.vl hi
  simp only at e
  have hnone : ((rowB d.files A.vs).set (i * 3) (txtV N)).set (i * 3 + 1) (txtV (fAt d i).safe) = (rowB d.files A.vs).set (i * 3) (txtV N) := by
    apply List.ext_getElem?
    intro j
    rw [List.getElem?_set]
    split
    · rename_i hj
      subst hj
      rw [List.getElem?_set_ne (by omega), rowB_at 1 hf hv (by omega)]
      split
      · rfl
      · rename_i hn
        rw [List.length_set] at hn
        have := hown.1
        omega
    · rfl
  rw [hnone] at e
  rw [← e] at s3
  have hvg : v'.ownBlock ≠ some g := by
    intro e
    rcases hat with h1 | ⟨x, h1, h2⟩
    · rw [h1] at e
      have := hvb _ e
      omega
    · rw [h1] at e
      injection e with e
      omega
  refine ⟨h.file_turn (f := { fAt d i with now := N, steps := (fAt d i).steps ++ [s] }) (v := v') hi (fun k hk h4 h5 => ?_) (fun k hk => (hold k (h.inw k (by omega))).trans hk) (by rw [hfv]; exact s3) ⟨?_, fun x hx => by simp [rowR, hx]⟩ (fun k hk => ?_) (fun k hk => (hold k (by omega)).trans (h.low k hk)), ?_⟩
  · have hkl := h.inw k hk
    have hkg : k ≠ g := fun e => h4 (by rw [e]; exact hg4)
    exact ⟨((Below.heap_setCell _ _ _ k hkg).trans (hgr.block k (by rw [hsz1]; exact hkl) (fun e => h5 (hvb k e.symm)))).trans (Below.heap_setCell _ _ _ k hkg), hold k hkl⟩
  · simp only [List.length_append, List.flatMap_append, List.length_singleton, List.flatMap_singleton]
    exact ownsRow_setCell_other hrow (a := ⟨g, i * 3 + 2, none⟩) hvg _
  · have hsz2 : (w2.setCell ⟨g, i * 3 + 2, none⟩ v').heap.size = w2.heap.size := by simp [World.setCell]
    rw [hsz2]
    unfold rowR at hk
    split at hk
    · rename_i e
      exact (World.ownsRow.lt hrow k e).2
    · have := h.inw k hk
      have := hgr.size
      omega
  · have hg0 : R g ≠ 0 := by omega
    have hsz2 : (w2.setCell ⟨g, i * 3 + 2, none⟩ v').heap.size = w2.heap.size := by simp [World.setCell]
    exact ⟨hgr.os, hgr.tape, hgr.output, by rw [hsz2, ← hsz1]; exact hgr.size, fun k hk hr => by
      have hkg : k ≠ g := fun e => hg0 (e ▸ hr)
      exact ((Below.heap_setCell _ _ _ k hkg).trans (hgr.block k (by rw [hsz1]; exact hk) (fun e => by have := hvb k e.symm; omega))).trans (Below.heap_setCell _ _ _ k hkg), hold⟩
/-- A file more. -/
theorem RD.file_more (h : RD B0 w R A d) {v' : Value} {w2 : World} (hg : w.grownBy w2 A.fv.ownBlock) (hrow : w2.ownsRow 0 119 3 v' (d.files.length + 1) (rowB d.files A.vs ++ [.string ⟨#[]⟩, .string ⟨#[]⟩, .slice none 0 0])) (hat : v'.ownBlock = A.fv.ownBlock ∨ ∃ g, v'.ownBlock = some g ∧ w.heap.size ≤ g) (hB : B0 ≤ w.heap.size) :
    RD B0 (w2.setCell ⟨A.q, 3, none⟩ v') (rowR R v' 4) { A with fv := v', vs := A.vs ++ [.slice none 0 0] } { d with files := d.files ++ [⟨[], [], []⟩] } ∧ Own R (rowR R v' 4) w (w2.setCell ⟨A.q, 3, none⟩ v') := by
  have hv := h.files.2
  have hold : ∀ k, k < w.heap.size → rowR R v' 4 k = R k := fun k hk => rowR_old hv hat hk
  have hpl := Blk.lt h.blk
  have key : ∀ k, R k ≠ 0 → R k ≠ 1 → R k ≠ 4 → (w2.setCell ⟨A.q, 3, none⟩ v').heap[k]? = w.heap[k]? ∧ rowR R v' 4 k = R k := by
    intro k hk h1 h7
    have hkl := h.inw k hk
    refine ⟨(Below.heap_setCell _ _ _ k (fun e => h1 (by rw [e]; exact h.rq))).trans (hg.block k hkl (fun e => h7 (hv k e.symm))), hold k hkl⟩
  have hpv : v'.ownBlock ≠ some A.q := by
    intro e
    rcases hat with h1 | ⟨g, h1, h2⟩
    · rw [h1] at e
      have := hv _ e
      have := h.rq
      omega
    · rw [h1] at e
      injection e with e
      omega
  have hpS : some A.q ≠ A.fv.ownBlock := by
    intro e
    have := hv _ e.symm
    have := h.rq
    omega
  have hblk2 : Blk w2 A.q _ _ := Blk.grown h.blk hg hpS
  have hsz2 : (w2.setCell ⟨A.q, 3, none⟩ v').heap.size = w2.heap.size := by simp [World.setCell]
  refine ⟨{
    blk := hblk2.set_ 3 v'
    rq := (hold _ hpl).trans h.rq
    things := h.things.same fun k _ hk => key k (by omega) (by omega) (by omega)
    safe := h.safe.same fun k _ hk => key k (by omega) (by omega) (by omega)
    steps := h.steps.same fun k _ hk => key k (by omega) (by omega) (by omega)
    files := ?_
    vl := by simp [h.vl]
    bytes := ?_
    inw := ?_
    low := fun k hk => (hold k (by omega)).trans (h.low k hk) }, ?_⟩
  · refine ⟨?_, fun g hg' => by simp [rowR, hg']⟩
    simp only [List.length_append, List.length_singleton]
    rw [rowB_append _ _ h.vl]
    exact ownsRow_setCell_other hrow (a := ⟨A.q, 3, none⟩) hpv _
  · intro i f v hf hv'
    rw [List.getElem?_append] at hf hv'
    rw [h.vl] at hv'
    split at hf
    · rename_i hi
      rw [if_pos hi] at hv'
      exact (h.bytes i f v hf hv').same fun k _ hk => key k (by omega) (by omega) (by omega)
    · rename_i hi
      rw [if_neg hi] at hv'
      have hi0 : i - d.files.length = 0 := by
        have := (List.getElem?_eq_some_iff.1 hf).1
        simp at this
        omega
      rw [hi0] at hf hv'
      simp at hf hv'
      subst hf hv'
      exact RowIs.nil
  · intro k hk
    rw [hsz2]
    unfold rowR at hk
    split at hk
    · rename_i e
      exact (World.ownsRow.lt hrow k e).2
    · exact Nat.lt_of_lt_of_le (h.inw k hk) hg.size
  · exact ⟨hg.os, hg.tape, hg.output, by rw [hsz2]; exact hg.size, fun k hk hr => (Below.heap_setCell _ _ _ k (fun e => h.q_own (by rw [← show k = A.q from e]; exact hr))).trans (hg.block k hk (fun e => by have := hv k e.symm; omega)), hold⟩
end
end Go.Proofs.YtdaidbnbfjgjeaaGreatDoor

/-! ## RdkWalksD -/
/- The walks of layer 3 (disk), the document's: names. -/
namespace Go.Proofs.YtdaidbnbfjgjeaaGreatDoor
open Go.RowKit Go.Shelf Go.Maps Go.Sort
attribute [local go_sem ↓] Go.wp_at_zero Go.wp_at_succ
attribute [local go_sem] Later.cell Later.frozen

theorem ApplyOut.slice {w w' : World} {l : List Th} {e : Ending} (h : ApplyOut w l e w') : ∃ X c, e = .returned (.slice X l.length c) ∧ w'.ownsRow w.heap.size 112 3 (.slice X l.length c) l.length (l.flatMap encT) ∧ Below w.heap.size w w' := by
  obtain ⟨v, rfl, hv, hb⟩ := h
  rcases hv.2 with ⟨rfl, h0⟩ | ⟨g, cap, cur, rfl, _⟩
  · rw [h0] at hv
    exact ⟨none, 0, by rw [h0], by rw [h0]; exact hv, hb⟩
  · exact ⟨_, cap, rfl, hv, hb⟩
section
variable {B0 : Nat} {R : Nat → Nat} {A : RAdr} {d : Ds}
theorem info_step : (Tryz.prog.info? 115).map (fun i => (i.zero, i.size, i.bytes)) = some (some (.agg #[.int .i64 0, .string ⟨#[]⟩, .string ⟨#[]⟩, .int .i64 0]), 4, 48) := by kernel_rfl
set_option maxRecDepth 100000 in
set_option maxHeartbeats 2000000 in
theorem rnames_calls (s : St) (K AT : Int) (S1 S2 : ByteArray) (henc : encS s = [.int .i64 K, .string S1, .string S2, .int .i64 AT])
    (hap : ∀ (X : Option Addr) (n c : Nat) (w : World), Ths w X n d.things → Calls Tryz.prog 67 #[.slice X n c, .agg #[.int .i64 K, .string S1, .string S2, .int .i64 AT]] w (ApplyOut w (applyS d.things s)))
    (w : World) (h : RD B0 w R A d) (haw : d.await ≤ 9223372036854775807) (hsl : d.steps.length ≤ 1073741824) (hB : B0 ≤ w.heap.size) :
    Calls Tryz.prog 89 #[.pointer (some ⟨A.q, 0, none⟩), .agg #[.int .i64 K, .string S1, .string S2, .int .i64 AT]] w (RdOut B0 R A (namesD d s) w) := by
  obtain ⟨q, hq⟩ : ∃ q, A.q = q := ⟨_, rfl⟩
  have HQ := Lib.hid hq
  rw [hq]
  have HENC := Lib.hid henc
  have HAP := Lib.hid hap
  clear hq henc hap
  go_enter Tryz.func89, Tryz.ntmps89
  go_upto_region 1 with fail
  obtain ⟨W, hW⟩ : ∃ x, w.alloc (.cells #[.int .i64 K, .string S1, .string S2, .int .i64 AT] 115) = x := ⟨_, rfl⟩
  have hb1 : Below w.heap.size w W := by rw [← hW]; exact (Below.refl _ _).alloc (Nat.le_refl _) _
  have hk1 : Blk W w.heap.size 115 #[.int .i64 K, .string S1, .string S2, .int .i64 AT] := by rw [← hW]; exact Blk.new _ _ _
  rw [hW]
  have hRb : R w.heap.size = 0 := h.inw.new (Nat.le_refl _)
  have hBW : B0 ≤ W.heap.size := Nat.le_trans hB hb1.size
  obtain ⟨b, hbb⟩ : ∃ b, w.heap.size = b := ⟨_, rfl⟩
  rw [hbb] at hk1 hRb ⊢
  have hRD1 := h.below hb1
  have hbq : b ≠ A.q := fun e => by have := h.rq; rw [← e, hRb] at this; omega
  have HST := Lib.hid (rstep_calls W hRD1 haw)
  rw [HQ.out] at HST
  have HB1 := Lib.hid hb1
  have HK1 := Lib.hid hk1
  clear hW hbb hRD1 hb1 hk1
  go_wp2_with fail
  refine HST.out.mono ?_
  rintro _ w1 ⟨rfl, hRD2, hO1, hsz, hrest⟩
  obtain ⟨k, dd, hk⟩ : ∃ k d1, stepD d = (k, d1) := ⟨_, _, rfl⟩
  rw [hk] at hRD2 ⊢
  have HK := Lib.hid hk
  have HR2 := Lib.hid hRD2
  have HO1 := Lib.hid hO1
  have hkb : Blk w1 b _ _ := (hrest b HK1.out.lt hbq).trans HK1.out
  have hB1s : B0 ≤ w1.heap.size := by omega
  clear hk hRD2 hO1 hsz hrest
  cases k with
  | succ k =>
    have hfin : RdOut B0 R A (namesD d s) w (.returned (.int .i64 ((k + 1 : Nat) : Int))) w1 := by
      have e1 : namesD d s = (k + 1, dd) := by unfold namesD; rw [HK.out]; simp
      rw [e1]
      exact ⟨R, A, rfl, HR2.out, (Own.of_below HB1.out).trans HO1.out, rfl⟩
    have HFIN := Lib.hid hfin
    have d1 : (((k + 1 : Nat) : Int) == 0) = false := by rw [beq_eq_false_iff_ne]; omega
    clear hfin
    go_wp2_with fail
    go_ret
    exact HFIN.out
  | zero =>
    have hss := stepD_same d
    rw [HK.out] at hss
    obtain ⟨X, c, hv, hX, hc⟩ := HR2.out.things.out
    rw [hss.1] at hv hX hc
    have hbl := hkb.lt
    have hql : q < w1.heap.size := by rw [← HQ.out]; exact Blk.lt HR2.out.blk
    have c0 : w1.cell? ⟨q, 0, none⟩ = some (.slice X d.things.length c) := by rw [← HQ.out, ← hv]; exact Blk.cell HR2.out.blk 0
    have g0 : w1.frozen? ⟨q, 0, none⟩ = false := by rw [← HQ.out]; exact Blk.frozen HR2.out.blk 0
    have b0 := hkb.cell 0
    have b1 := hkb.cell 1
    have b2 := hkb.cell 2
    have b3 := hkb.cell 3
    simp at b0 b1 b2 b3
    have HX := Lib.hid hX
    have HV := Lib.hid hv
    have HKB := Lib.hid hkb
    have HSS := Lib.hid hss
    have HAP2 := Lib.hid (HAP.out X d.things.length c w1.drew HX.out)
    clear hss hv hX hkb
    go_upto_region 4 with fail
    go_cut [5] (fun s5 wz => s5 = .int .i64 0 ∧ ∃ X2 c2 w2, wz = w2.setCell ⟨q, 0, none⟩ (.slice X2 (applyS d.things s).length c2) ∧ w2.ownsRow w1.heap.size 112 3 (.slice X2 (applyS d.things s).length c2) (applyS d.things s).length ((applyS d.things s).flatMap encT) ∧ Below w1.heap.size w1 w2)
    case first =>
      go_region_with ((go_at_call 67; refine HAP2.out.mono ?_; rintro _ w2 hA; obtain ⟨X2, c2, rfl, hv2, hb2⟩ := hA.slice; clear hA; have k0 : w2.cell? ⟨q, 0, none⟩ = some (.slice X d.things.length c) := (hb2.cell (p := ⟨q, 0, none⟩) hql).trans c0; have f0 : w2.frozen? ⟨q, 0, none⟩ = false := (hb2.frozen (p := ⟨q, 0, none⟩) hql).trans g0; have HV2 := Lib.hid hv2; have HB2 := Lib.hid hb2; clear hv2 hb2))
      all_goals
        go_wp2_with fail
        go_meet
        exact ⟨rfl, _, _, _, rfl, HV2.out, ⟨HB2.out.os, HB2.out.tape, HB2.out.output, HB2.out.size, HB2.out.block⟩⟩
    case rest =>
      obtain ⟨rfl, X2, c2, w2, rfl, hv2, hb2⟩ := hcut
      have hw3 := HR2.out.give_row hb2 hv2 hB1s 2
      obtain ⟨hR3, hO3, hT3⟩ := hw3
      have hR4 := hR3.set_things (v := .slice X2 (applyS d.things s).length c2) (l := applyS d.things s) hT3
      have hO4 : Own R _ w (w2.setCell ⟨A.q, 0, none⟩ (.slice X2 (applyS d.things s).length c2)) := (((Own.of_below HB1.out).trans HO1.out).trans hO3).trans (Own.of_set _ hR3.q_own)
      have hkb4 : Blk (w2.setCell ⟨A.q, 0, none⟩ (.slice X2 (applyS d.things s).length c2)) b 115 #[.int .i64 K, .string S1, .string S2, .int .i64 AT] := (HKB.out.below hb2 hbl).far (p := ⟨A.q, 0, none⟩) hbq _
      obtain ⟨R4, hRR⟩ : ∃ r, rowR R (.slice X2 (applyS d.things s).length c2) 2 = r := ⟨_, rfl⟩
      rw [hRR] at hR4 hO4
      have hsz4 : w1.heap.size ≤ w2.heap.size := hb2.size
      obtain ⟨TV, hTV⟩ : ∃ v, Value.slice X2 (applyS d.things s).length c2 = v := ⟨_, rfl⟩
      rw [hTV] at hR4 hO4 hkb4 ⊢
      rw [← HQ.out]
      obtain ⟨w4, hw4⟩ : ∃ x, w2.setCell ⟨A.q, 0, none⟩ TV = x := ⟨_, rfl⟩
      have hsz5 : w2.heap.size = w4.heap.size := by rw [← hw4]; simp [World.setCell]
      rw [hw4] at hR4 hO4 hkb4 ⊢
      rw [HQ.out]
      have hss := HSS.out
      have hgs := hR4.steps
      simp only [hss.2.2.1] at hgs
      obtain ⟨m, hm⟩ : ∃ m, d.steps.length = m := ⟨_, rfl⟩
      have hrow := hgs.1
      rw [hm] at hrow hsl
      obtain ⟨X4, c4, hgv⟩ : ∃ X4 c4, A.gv = .slice X4 m c4 := by
        rcases hrow.2 with ⟨h1, h0⟩ | ⟨g, cap, cur, h1, _⟩
        · exact ⟨none, 0, by rw [h0]; exact h1⟩
        · exact ⟨_, cap, h1⟩
      have c2' : w4.cell? ⟨q, 2, none⟩ = some (.slice X4 m c4) := by rw [← HQ.out, ← hgv]; exact Blk.cell hR4.blk 2
      have b0' := hkb4.cell 0
      have b1' := hkb4.cell 1
      have b2' := hkb4.cell 2
      have b3' := hkb4.cell 3
      simp at b0' b1' b2' b3'
      have hbl4 := hkb4.lt
      have hql4 : q < w4.heap.size := lt_of_cell c2'
      have HM := Lib.hid hm
      have HGV := Lib.hid hgv
      have HR4 := Lib.hid hR4
      have HO4 := Lib.hid hO4
      have HKB4 := Lib.hid hkb4
      have hrow2 : w4.ownsRow 0 115 4 (.slice X4 m c4) m (d.steps.flatMap encS) := by rw [← hgv]; exact hrow
      have HROW := Lib.hid hrow2
      have hBs4 : B0 ≤ w4.heap.size := by omega
      clear hw4 hTV hRR hR3 hO3 hT3 hR4 hO4 hkb4 hss hgs hrow hrow2 hm hgv c0 g0 b0 b1 b2 b3 hv2 hb2 hsz5 hsz4
      have hkt : ∀ (w5 : World), (w4.drew.alloc (.cells #[.int .i64 K, .string S1, .string S2, .int .i64 AT] 115)).grownBy w5 (Value.slice X4 m c4).ownBlock → w5.cell? ⟨q, 2, none⟩ = some (.slice X4 m c4) ∧ w5.frozen? ⟨q, 2, none⟩ = false ∧ w4.grownBy w5 (Value.slice X4 m c4).ownBlock := by
        intro w5 hg
        have h1 : Blk w4.drew A.q _ _ := HR4.out.blk
        have hne : some A.q ≠ (Value.slice X4 m c4).ownBlock := fun e => by
          have k3 : R4 A.q = 3 := HR4.out.steps.2 A.q (by simp only []; rw [HGV.out]; exact e.symm)
          have k1 : R4 A.q = 1 := HR4.out.rq
          omega
        have h2 := (h1.alloc (.cells #[.int .i64 K, .string S1, .string S2, .int .i64 AT] 115)).grown hg hne
        rw [HQ.out] at h2
        have h3 : w4.drew.grownBy w5 (Value.slice X4 m c4).ownBlock := (World.grownBy_alloc w4.drew _ _).trans hg
        refine ⟨?_, h2.frozen 2, ⟨h3.os, h3.tape, h3.output, h3.size, h3.block⟩⟩
        rw [h2.cell 2, ← HGV.out]
        rfl
      have hnews : ∀ j u, ([.int .i64 K, .string S1, .string S2, .int .i64 AT] : List Value)[j]? = some u → (w4.drew.alloc (.cells #[.int .i64 K, .string S1, .string S2, .int .i64 AT] 115)).cell? ((⟨w4.heap.size, 0, none⟩ : Addr).add j) = some u := news_of_blk (l := [.int .i64 K, .string S1, .string S2, .int .i64 AT]) (Blk.new w4.drew _ _)
      have h1c : ∀ u ∈ ([.int .i64 K, .string S1, .string S2, .int .i64 AT] : List Value), u.oneCell' = true := by intro u hu; simp at hu; rcases hu with rfl | rfl | rfl | rfl <;> rfl
      have HKT := Lib.hid hkt
      have HNEWS := Lib.hid hnews
      have H1C := Lib.hid h1c
      obtain ⟨i0, hi0, hz0, hz1, hz2⟩ := info_parts info_step
      clear hkt hnews h1c
      go_upto_region 5 with fail
      go_region_law ((refine step_append_lies _ (by rfl) _ _ _ (by rfl) 0 115 i0 (.agg #[.int .i64 0, .string ⟨#[]⟩, .string ⟨#[]⟩, .int .i64 0]) 4 48 Tryz.underlying52 hi0 hz0 hz1 hz2 rfl (by omega) (.slice X4 m c4) m (d.steps.flatMap encS) (by rfl) (World.ownsRow.alloc (w := w4.drew) HROW.out _) ⟨w4.heap.size, 0, none⟩ 1 1 [.int .i64 K, .string S1, .string S2, .int .i64 AT] (by rfl) (by rfl) HNEWS.out H1C.out (by omega) (by simp only [maxLen]; omega) (by omega) (Nat.zero_le _) (w4.heap.size + 1) (by simp) ?_; intro g cap w5 hown5 hgrow hat hlt; obtain ⟨k0, f0, hg5⟩ := HKT.out _ hgrow))
      all_goals
        have hlast := HR4.out.step_more s (v' := .slice (some ⟨g, 0, none⟩) (m + 1) cap) (w2 := w5) (by simp only []; rw [HGV.out]; exact hg5) (by
          simp only [HSS.out.2.2.1]
          rw [HM.out, HENC.out]
          exact hown5) (by
          simp only []
          rw [HGV.out]
          rcases hat with h1 | h1
          · exact .inl h1.symm
          · exact .inr ⟨g, rfl, by omega⟩) hBs4
        obtain ⟨hlr, hlo⟩ := hlast
        have hfin : RdOut B0 R A (namesD d s) w (.returned (.int .i64 0)) (w5.setCell ⟨q, 2, none⟩ (.slice (some ⟨g, 0, none⟩) (m + 1) cap)) := by
          have e1 : namesD d s = (0, { dd with things := applyS d.things s, steps := d.steps ++ [s] }) := by
            unfold namesD
            rw [HK.out]
            rfl
          rw [e1]
          rw [HQ.out] at hlr hlo
          simp only [HSS.out.2.2.1] at hlr
          exact ⟨_, _, rfl, hlr, HO4.out.trans hlo, HQ.out.symm⟩
        have HFIN := Lib.hid hfin
        clear hfin hlr hlo hat hlt hgrow hg5 hown5
        go_wp2_with fail
        go_ret
        exact HFIN.out
end
end Go.Proofs.YtdaidbnbfjgjeaaGreatDoor
