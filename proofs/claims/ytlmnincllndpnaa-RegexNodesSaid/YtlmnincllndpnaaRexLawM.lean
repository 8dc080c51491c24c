/- The statement RegexNodes, walked: a tree that is spoilt. -/
import Derived.Test.YtlmnincllndpnaaRexLawN
namespace Go.Proofs.Ytlmnincllndpnaa
open Go.RowKit
attribute [local go_sem ↓] Go.wp_at_zero Go.wp_at_succ
attribute [local go_sem] Later.cell Later.frozen

/-- Nothing has changed but blocks from lo on below hi. -/
structure Spoilt (lo hi : Nat) (w w' : World) : Prop where
  os : w'.os = w.os
  tape : w'.tape = w.tape
  output : w'.output = w.output
  size : w.heap.size ≤ w'.heap.size
  block : ∀ b, b < lo ∨ hi ≤ b → b < w.heap.size → w'.heap[b]? = w.heap[b]?
theorem Spoilt.refl (lo hi : Nat) (w : World) : Spoilt lo hi w w := ⟨rfl, rfl, rfl, Nat.le_refl _, fun _ _ _ => rfl⟩
theorem Spoilt.trans {lo hi : Nat} {w w1 w2 : World} (h : Spoilt lo hi w w1) (h' : Spoilt lo hi w1 w2) : Spoilt lo hi w w2 :=
  ⟨h'.os.trans h.os, h'.tape.trans h.tape, h'.output.trans h.output, Nat.le_trans h.size h'.size, fun b hb hl => (h'.block b hb (Nat.lt_of_lt_of_le hl h.size)).trans (h.block b hb hl)⟩
theorem Spoilt.mono {lo hi lo' hi' : Nat} {w w' : World} (h : Spoilt lo hi w w') (h1 : lo' ≤ lo) (h2 : hi ≤ hi') : Spoilt lo' hi' w w' :=
  ⟨h.os, h.tape, h.output, h.size, fun b hb hl => h.block b (by omega) hl⟩
theorem Spoilt.blk {lo hi : Nat} {w w' : World} (h : Spoilt lo hi w w') {g : Nat} {t : TypeId} {cs : Array Value} (hg : Blk w g t cs) (hn : g < lo ∨ hi ≤ g) : Blk w' g t cs := (h.block g hn hg.lt).trans hg
theorem Spoilt.set_ {lo hi : Nat} {w w' : World} (h : Spoilt lo hi w w') {p : Addr} (h1 : lo ≤ p.block) (h2 : p.block < hi) (u : Value) : Spoilt lo hi w (w'.setCell p u) :=
  h.trans ⟨rfl, rfl, rfl, by simp [World.setCell], fun b hb _ => Below.heap_setCell _ _ _ _ (by omega)⟩
theorem Spoilt.tree {lo hi lo' hi' p : Nat} {w w' : World} {u : Tr} (h : Spoilt lo hi w w') (ht : TreeAt w u lo' hi' p) (hs : hi' ≤ w.heap.size) (hn : hi' ≤ lo ∨ hi ≤ lo') : TreeAt w' u lo' hi' p :=
  ht.keep (Nat.le_refl _) (Nat.le_refl _) (fun b h1 h2 => h.block b (by omega) (by omega))

def SpoilOk (u : Tr) : Prop := ∀ (w : World) (lo hi p : Nat), TreeAt w u lo hi p → hi ≤ w.heap.size →
  Calls Try.prog 21 #[.pointer (some ⟨p, 0, none⟩)] w fun e w' => e = .returned (.tuple #[]) ∧ Spoilt lo hi w w'

/-- The children of a node that is spoilt. -/
def KidsIn (w : World) (lo hi p : Nat) (A : Option Addr) (n : Nat) : Prop :=
  n = 0 ∨
  (n = 2 ∧ ∃ k pa pb, A = some ⟨k, 0, none⟩ ∧ k < hi ∧ Blk w k 23 #[.pointer (some ⟨pa, 0, none⟩), .pointer (some ⟨pb, 0, none⟩)] ∧ ∃ m, lo ≤ m ∧ m ≤ k ∧
    (∀ w', Spoilt m m w w' → Calls Try.prog 21 #[.pointer (some ⟨pa, 0, none⟩)] w' fun e w'' => e = .returned (.tuple #[]) ∧ Spoilt lo m w' w'') ∧
    (∀ w', Spoilt lo m w w' → Calls Try.prog 21 #[.pointer (some ⟨pb, 0, none⟩)] w' fun e w'' => e = .returned (.tuple #[]) ∧ Spoilt lo k w' w'')) ∨
  (n = 1 ∧ ∃ k pa, A = some ⟨k, 0, none⟩ ∧ k < hi ∧ Blk w k 23 #[.pointer (some ⟨pa, 0, none⟩)] ∧ lo ≤ k ∧
    (∀ w', Spoilt k k w w' → Calls Try.prog 21 #[.pointer (some ⟨pa, 0, none⟩)] w' fun e w'' => e = .returned (.tuple #[]) ∧ Spoilt lo k w' w''))

set_option maxRecDepth 100000 in
set_option maxHeartbeats 2000000 in
theorem spoil_gen (kd : Int) (S lo hi p n c : Nat) (A : Option Addr) (w : World) (hp : Blk w p 52 (nodeCells kd S (.slice A n c))) (h1 : lo ≤ p) (h2 : p < hi) (hk : KidsIn w lo hi p A n) (hkp : ∀ k, A = some ⟨k, 0, none⟩ → k < p) :
    Calls Try.prog 21 #[.pointer (some ⟨p, 0, none⟩)] w fun e w' => e = .returned (.tuple #[]) ∧ Spoilt lo hi w w' := by
  have p5 : _ = some (Value.slice A n c) := hp.cell 5
  have HK := Lib.hid hk
  have HKP := Lib.hid hkp
  clear hk hkp
  go_enter Try.func21, Try.ntmps21
  go_upto_block 0 with fail
  go_cut [] (fun wz => Spoilt lo hi w wz ∧ Blk wz p 52 (nodeCells kd S (.slice A n c)))
  case first =>
    rcases HK.out with rfl | ⟨rfl, k, pa, pb, rfl, hkh, hkb, m, hlm, hmk, hca, hcb⟩ | ⟨rfl, k, pa, rfl, hkh, hkb, hlk, hca⟩
    · go_wp2_with fail
      refine wp_loop_rounds 1 ?_
      rw [rounds_succ]
      go_wp2_with fail
      go_meet
      exact ⟨Spoilt.refl _ _ _, hp⟩
    · have g0 : _ = some (Value.pointer (some ⟨pa, 0, none⟩)) := hkb.cell 0
      have hkp := HKP.out k rfl
      have hC1 := hca w (Spoilt.refl _ _ _)
      have HC1 := Lib.hid hC1
      have HCB := Lib.hid hcb
      clear hC1 hca hcb HK HKP
      go_wp2_with fail
      refine wp_loop_rounds 3 ?_
      rw [rounds_succ]
      go_wp2_with fail
      refine HC1.out.mono ?_
      rintro e w1 ⟨rfl, hs1⟩
      have hkb1 := hs1.blk hkb (.inr hmk)
      have hp1 := hs1.blk hp (.inr (by omega))
      have g1 : _ = some (Value.pointer (some ⟨pb, 0, none⟩)) := hkb1.cell 1
      clear g0
      go_wp2_with fail
      rw [rounds_succ]
      go_wp2_with fail
      refine (HCB.out w1 hs1).mono ?_
      rintro e w2 ⟨rfl, hs2⟩
      have hp2 := hs2.blk hp1 (.inr (by omega))
      clear g1
      go_wp2_with fail
      rw [rounds_succ]
      go_wp2_with fail
      go_meet
      exact ⟨(hs1.mono (Nat.le_refl _) (by omega)).trans (hs2.mono (Nat.le_refl _) (by omega)), hp2⟩
    · have g0 : _ = some (Value.pointer (some ⟨pa, 0, none⟩)) := hkb.cell 0
      have hkp := HKP.out k rfl
      have hC1 := hca w (Spoilt.refl _ _ _)
      have HC1 := Lib.hid hC1
      clear hC1 hca HK HKP
      go_wp2_with fail
      refine wp_loop_rounds 2 ?_
      rw [rounds_succ]
      go_wp2_with fail
      refine HC1.out.mono ?_
      rintro e w1 ⟨rfl, hs1⟩
      have hp1 := hs1.blk hp (.inr (by omega))
      clear g0
      go_wp2_with fail
      rw [rounds_succ]
      go_wp2_with fail
      go_meet
      exact ⟨hs1.mono (Nat.le_refl _) (by omega), hp1⟩
  case rest =>
    obtain ⟨hs, hpz⟩ := hcut
    obtain ⟨w2, rfl⟩ : ∃ x, x = wc := ⟨_, rfl⟩
    have g0 : _ = some (Value.int .i64 kd) := hpz.cell 0
    have g1 : _ = some (Value.int .u64 (word S 0)) := hpz.cell 1
    have g2 : _ = some (Value.int .u64 (word S 1)) := hpz.cell 2
    have g3 : _ = some (Value.int .u64 (word S 2)) := hpz.cell 3
    have g4 : _ = some (Value.int .u64 (word S 3)) := hpz.cell 4
    have g5 : _ = some (Value.slice A n c) := hpz.cell 5
    have f0 := hpz.frozen 0
    have f1 := hpz.frozen 1
    have f2 := hpz.frozen 2
    have f3 := hpz.frozen 3
    have f4 := hpz.frozen 4
    have f5 := hpz.frozen 5
    clear p5
    go_wp2_with fail
    go_end0
    exact ⟨rfl, (((((hs.set_ (p := ⟨p, 0, none⟩) h1 h2 _).set_ (p := ⟨p, 1, none⟩) h1 h2 _).set_ (p := ⟨p, 2, none⟩) h1 h2 _).set_ (p := ⟨p, 3, none⟩) h1 h2 _).set_ (p := ⟨p, 4, none⟩) h1 h2 _).set_ (p := ⟨p, 5, none⟩) h1 h2 _⟩

theorem spoil_calls : ∀ u : Tr, SpoilOk u
  | .empty => fun w lo hi p h hz => spoil_gen 0 0 lo hi p 0 0 none w h.2.2 h.1 h.2.1 (.inl rfl) (fun k e => by cases e)
  | .cls S => fun w lo hi p h hz => spoil_gen 1 S lo hi p 0 0 none w h.2.2.2 h.1 h.2.1 (.inl rfl) (fun k e => by cases e)
  | .cat a b => fun w lo hi p h hz => by
    obtain ⟨m1, m2, k, pa, pb, ha, hb, g1, g2, g3, e1, e2⟩ := h
    have l1 := ha.lt
    have l2 := hb.lt
    refine spoil_gen 2 0 lo hi p 2 2 (some ⟨k, 0, none⟩) w e2 (by omega) g3 (.inr (.inl ⟨rfl, k, pa, pb, rfl, by omega, e1, m1, by omega, by omega, fun w' hs => ?_, fun w' hs => ?_⟩)) (fun k' e => by injection e with e; injection e with e; omega)
    · exact spoil_calls a w' lo m1 pa (hs.tree ha (by omega) (.inl (Nat.le_refl _))) (by have := hs.size; omega)
    · refine (spoil_calls b w' m1 m2 pb (hs.tree hb (by omega) (.inr (Nat.le_refl _))) (by have := hs.size; omega)).mono ?_
      rintro e w'' ⟨he, hs'⟩
      exact ⟨he, hs'.mono (by omega) (by omega)⟩
  | .alt a b => fun w lo hi p h hz => by
    obtain ⟨m1, m2, k, pa, pb, ha, hb, g1, g2, g3, e1, e2⟩ := h
    have l1 := ha.lt
    have l2 := hb.lt
    refine spoil_gen 3 0 lo hi p 2 2 (some ⟨k, 0, none⟩) w e2 (by omega) g3 (.inr (.inl ⟨rfl, k, pa, pb, rfl, by omega, e1, m1, by omega, by omega, fun w' hs => ?_, fun w' hs => ?_⟩)) (fun k' e => by injection e with e; injection e with e; omega)
    · exact spoil_calls a w' lo m1 pa (hs.tree ha (by omega) (.inl (Nat.le_refl _))) (by have := hs.size; omega)
    · refine (spoil_calls b w' m1 m2 pb (hs.tree hb (by omega) (.inr (Nat.le_refl _))) (by have := hs.size; omega)).mono ?_
      rintro e w'' ⟨he, hs'⟩
      exact ⟨he, hs'.mono (by omega) (by omega)⟩
  | .star a => fun w lo hi p h hz => by
    obtain ⟨m, k, pa, ha, g1, g2, g3, e1, e2⟩ := h
    have l1 := ha.lt
    refine spoil_gen 4 0 lo hi p 1 1 (some ⟨k, 0, none⟩) w e2 (by omega) g3 (.inr (.inr ⟨rfl, k, pa, rfl, by omega, e1, by omega, fun w' hs => ?_⟩)) (fun k' e => by injection e with e; injection e with e; omega)
    refine (spoil_calls a w' lo m pa (hs.tree ha (by omega) (.inl g1)) (by have := hs.size; omega)).mono ?_
    rintro e w'' ⟨he, hs'⟩
    exact ⟨he, hs'.mono (Nat.le_refl _) (by omega)⟩
  | .plus a => fun w lo hi p h hz => by
    obtain ⟨m, k, pa, ha, g1, g2, g3, e1, e2⟩ := h
    have l1 := ha.lt
    refine spoil_gen 5 0 lo hi p 1 1 (some ⟨k, 0, none⟩) w e2 (by omega) g3 (.inr (.inr ⟨rfl, k, pa, rfl, by omega, e1, by omega, fun w' hs => ?_⟩)) (fun k' e => by injection e with e; injection e with e; omega)
    refine (spoil_calls a w' lo m pa (hs.tree ha (by omega) (.inl g1)) (by have := hs.size; omega)).mono ?_
    rintro e w'' ⟨he, hs'⟩
    exact ⟨he, hs'.mono (Nat.le_refl _) (by omega)⟩
  | .quest a => fun w lo hi p h hz => by
    obtain ⟨m, k, pa, ha, g1, g2, g3, e1, e2⟩ := h
    have l1 := ha.lt
    refine spoil_gen 6 0 lo hi p 1 1 (some ⟨k, 0, none⟩) w e2 (by omega) g3 (.inr (.inr ⟨rfl, k, pa, rfl, by omega, e1, by omega, fun w' hs => ?_⟩)) (fun k' e => by injection e with e; injection e with e; omega)
    refine (spoil_calls a w' lo m pa (hs.tree ha (by omega) (.inl g1)) (by have := hs.size; omega)).mono ?_
    rintro e w'' ⟨he, hs'⟩
    exact ⟨he, hs'.mono (Nat.le_refl _) (by omega)⟩

theorem tree_len {w : World} {t : Nat} {ns : List RN} (h : RefTree w t ns) (hn : 0 < ns.length) : ∃ g cap, w.cell? ⟨t, 0, none⟩ = some (.slice (some ⟨g, 0, none⟩) ns.length cap) := by
  obtain ⟨base, v, s, j, d, h1, h2⟩ := h
  obtain ⟨g, cap, rfl, _, _⟩ := node_load h2 (List.getElem?_eq_getElem hn)
  exact ⟨g, cap, h1.cell 0⟩
/-- A tree of the document that lies beside what is spoilt. -/
theorem RefNew.spoilt {lo hi : Nat} {w w' : World} {t : Nat} {ns : List RN} (h : RefNew hi w t ns) (hs : Spoilt lo hi w w') : RefNew hi w' t ns := by
  obtain ⟨base, v, s, j, d, g1, g2, h1, h2⟩ := h
  exact ⟨base, v, s, j, d, g1, g2, hs.blk h1 (.inr g2), ownsRow_at h2 (fun g hg => hs.block g (.inr (by have := (h2.lt g hg).1; omega)) (h2.lt g hg).2)⟩
theorem Spoilt.below {lo hi B : Nat} {w w' : World} (h : Spoilt lo hi w w') (hB : B ≤ lo) (hs : B ≤ w.heap.size) : Below B w w' :=
  ⟨h.os, h.tape, h.output, h.size, fun k hk => h.block k (.inl (by omega)) (by omega)⟩

set_option maxRecDepth 100000 in
set_option maxHeartbeats 1000000 in
theorem regexNodes_calls (s : ByteArray) (w : World) :
    Calls Try.prog 7 #[.string s] w fun e w' => e = .returned (.bool true) ∧ Below w.heap.size w w' := by
  obtain ⟨res, hres⟩ := parses_total s.data.toList
  have HRES := Lib.hid hres
  clear hres
  cases res with
  | error c =>
    go_enter Try.func7, Try.ntmps7
    go_wp2_with fail
    refine (parse_calls s _ HRES.out w).mono ?_
    rintro e w1 ⟨rfl, hb1⟩
    go_wp2_with fail
    refine (rparse_calls s _ HRES.out w1).mono ?_
    rintro e w2 ⟨hc, rfl, hb2⟩
    go_wp2_with fail
    refine (wakes06_calls w2).mono ?_
    rintro e w3 ⟨rfl, hb3⟩
    have e0 : ((c : Int) != 0) = true := by simp; omega
    go_wp2_with fail
    go_ret
    exact ⟨rfl, then_ (then_ hb1 hb2) hb3⟩
  | ok u =>
    go_enter Try.func7, Try.ntmps7
    go_wp2_with fail
    refine (parse_calls s _ HRES.out w).mono ?_
    rintro e w1 ⟨p, rfl, ht, hb1⟩
    go_wp2_with fail
    refine (rparse_calls s _ HRES.out w1).mono ?_
    rintro e w2 ⟨t, ns, n, rfl, hn, hnb, hnew, hnode, hb2⟩
    go_wp2_with fail
    refine (wakes06_calls w2).mono ?_
    rintro e w3 ⟨rfl, hb3⟩
    have hnew3 := hnew.below hb3
    have ht3 : TreeAt w3 u w.heap.size w1.heap.size p := (ht.below (then_ hb2 hb3) (Nat.le_refl _) (Nat.le_refl _))
    obtain ⟨g, cap, c0⟩ := tree_len hnew3.tree (by omega)
    rw [hn] at c0
    have hcall := alike_calls u w3 p t ns n hnew3.tree hnode ht3.is
    have HC := Lib.hid hcall
    have HN := Lib.hid hn
    clear hcall hn
    go_wp2_with fail
    refine HC.out.mono ?_
    rintro e w4 ⟨rfl, hb4⟩
    have hnew4 := hnew3.below hb4
    have hs23 := hb2.size
    have hs3 := hb3.size
    have hs4 := hb4.size
    have ht4 : TreeAt w4 u w.heap.size w1.heap.size p := ht3.below hb4 (by omega) (Nat.le_refl _)
    clear c0 HC
    go_wp2_with fail
    refine (spoil_calls u w4 w.heap.size w1.heap.size p ht4 (by omega)).mono ?_
    rintro e w5 ⟨rfl, hs5⟩
    have hnew5 := hnew4.spoilt hs5
    have hb5 := hs5.below (B := w.heap.size) (Nat.le_refl _) (by have := hb1.size; omega)
    have hb05 : Below w.heap.size w w5 := (then_ (then_ (then_ hb1 hb2) hb3) hb4).trans hb5
    go_wp2_with fail
    refine (parse_calls s _ HRES.out w5).mono ?_
    rintro e w6 ⟨p6, rfl, ht6, hb6⟩
    have hnew6 := hnew5.below hb6
    obtain ⟨g, cap, c0⟩ := tree_len hnew6.tree (by have := HN.out; omega)
    rw [HN.out] at c0
    have hcall := alike_calls u w6 p6 t ns n hnew6.tree hnode ht6.is
    have HC := Lib.hid hcall
    clear hcall
    go_wp2_with fail
    refine HC.out.mono ?_
    rintro e w7 ⟨rfl, hb7⟩
    go_wp2_with fail
    go_ret
    exact ⟨rfl, then_ (then_ hb05 hb6) hb7⟩
end Go.Proofs.Ytlmnincllndpnaa
