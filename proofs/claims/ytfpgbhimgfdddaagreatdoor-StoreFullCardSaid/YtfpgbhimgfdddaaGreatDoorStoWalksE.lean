/- The walks of layer 20 (store): may a manifest be written? -/
import Derived.Test.YtfpgbhimgfdddaaGreatDoorStoWalksD
import Derived.Test.YtfpgbhimgfdddaaGreatDoorStgA
set_option linter.unusedVariables false
set_option linter.unusedSimpArgs false
namespace Go.Proofs.YtfpgbhimgfdddaaGreatDoor
open Go.RowKit Go.Shelf Go.Sort
attribute [local go_sem ↓] Go.wp_at_zero Go.wp_at_succ
attribute [local go_sem] Later.cell Later.frozen

def encInf (x : Inf) : List Value := [.int .i64 x.id, .int .i64 x.res, .int .i64 x.frm, .int .i64 x.to_, .int .i64 x.bytes]
def Infs (w : World) (A : Option Addr) (n : Nat) (l : List Inf) : Prop := Elems w w.heap.size 5 encInf A n l
theorem Infs.at_ {w : World} {A : Option Addr} {n : Nat} {l : List Inf} (h : Infs w A n l) {i : Nat} (hi : i < n) : ∃ b off, A = some ⟨b, off, none⟩ ∧ b < w.heap.size ∧ ∀ j u, (encInf l[i]!)[j]? = some u → w.cell? ⟨b, off + i * 5 + j, none⟩ = some u := by
  obtain ⟨b, off, e, hb, hc⟩ := h.2 (by omega)
  have hl : i < l.length := by have : l.length = n := Elems.len h; omega
  have hx := hc i l[i]! (by rw [getElem!_pos l i hl, List.getElem?_eq_getElem hl])
  exact ⟨b, off, e, hb, fun j u hu => by simpa using hx j _ hu⟩
theorem Infs.below {w w' : World} {A : Option Addr} {n : Nat} {l : List Inf} (h : Infs w A n l) (hb : Below w.heap.size w w') : Infs w' A n l := (Elems.below h hb).more hb.size
theorem Infs.of_own {w : World} {base : Nat} {v : Value} {n : Nat} {l : List Inf} (h : w.ownsRow base 116 5 v n (l.flatMap encInf)) (hn : l.length = n) : ∃ A c, v = .slice A n c ∧ Infs w A n l ∧ (∀ a, A = some a → base ≤ a.block) ∧ n ≤ c :=
  Elems.of_own (enc := encInf) (xs := l) (fun _ _ => rfl) rfl h hn
/-- A manifest's cells. -/
def manV (m : Man) (v : Value) : Array Value :=
  #[.int .i64 m.w0, .int .i64 m.w1, .int .i64 m.w2, .int .i64 m.next, .int .i64 m.log, v, .int .i64 m.cut, .int .i64 m.r0, .int .i64 m.r1, .int .i64 m.r2, .int .i64 m.l0, .int .i64 m.l1, .int .i64 m.l2]
def tenK (i : Nat) : Nat := #[0, 7, 10, 1, 8, 11, 2, 9, 12, 6].getD i 0
def loI (i : Nat) : Int := #[1, 0, 0, 1, 0, 0, 1, 0, 0, 0].getD i 0
def hiI (i : Nat) : Int := #[1099511627776, 1125899906842625, 1125899906842625, 1099511627776, 1125899906842625, 1125899906842625, 1099511627776, 1125899906842625, 1125899906842625, 1125899906842625].getD i 0
def tenI (m : Man) (i : Nat) : Int := m.tens.getD i 0
theorem ten_facts (m : Man) (v : Value) (b : Nat) : ∀ i, i < 10 → (tenP b)[i]? = some (ptrV b (tenK i)) ∧ (manV m v)[tenK i]? = some (.int .i64 (tenI m i)) ∧ tenL[i]? = some (.int .i64 (loI i)) ∧ tenG[i]? = some (.int .i64 (hiI i))
  | 0, _ => ⟨rfl, rfl, rfl, rfl⟩ | 1, _ => ⟨rfl, rfl, rfl, rfl⟩ | 2, _ => ⟨rfl, rfl, rfl, rfl⟩ | 3, _ => ⟨rfl, rfl, rfl, rfl⟩ | 4, _ => ⟨rfl, rfl, rfl, rfl⟩
  | 5, _ => ⟨rfl, rfl, rfl, rfl⟩ | 6, _ => ⟨rfl, rfl, rfl, rfl⟩ | 7, _ => ⟨rfl, rfl, rfl, rfl⟩ | 8, _ => ⟨rfl, rfl, rfl, rfl⟩ | 9, _ => ⟨rfl, rfl, rfl, rfl⟩
  | i + 10, h => absurd h (by omega)
def Good (next : Int) (l : List Inf) (j : Nat) : Prop := infB next l[j]! = true ∧ (0 < j → l[j - 1]!.id < l[j]!.id)
def TenOk (m : Man) (j : Nat) : Prop := loI j ≤ tenI m j ∧ tenI m j ≤ hiI j
theorem riseB_iff : ∀ l : List Inf, riseB l = true ↔ ∀ j, j < l.length → 0 < j → l[j - 1]!.id < l[j]!.id
  | [] => by simp [riseB]
  | [x] => by
    simp only [riseB, true_iff, List.length_singleton]
    intro j h1 h2
    omega
  | x :: y :: l => by
    have ih := riseB_iff (y :: l)
    simp only [riseB, Bool.and_eq_true, decide_eq_true_eq]
    rw [ih]
    constructor
    · rintro ⟨h1, h2⟩ j hj hp
      match j, hj, hp with
      | 1, _, _ => exact h1
      | j + 2, hj, _ =>
        have := h2 (j + 1) (by simpa using hj) (by omega)
        simpa using this
    · intro h
      refine ⟨by simpa using h 1 (by simp) (by omega), fun j hj hp => ?_⟩
      obtain ⟨k, rfl⟩ : ∃ k, j = k + 1 := ⟨j - 1, by omega⟩
      have := h (k + 2) (by simpa using hj) (by omega)
      simpa using this
theorem fit_iff (m : Man) : m.fit = true ↔ (∀ j, j < 10 → TenOk m j) ∧ (∀ j, j < m.blocks.length → Good m.next m.blocks j) ∧ 1 ≤ m.next ∧ m.next ≤ 99999999 ∧ 1 ≤ m.log ∧ m.log ≤ 99999999 := by
  have ht : (∀ j, j < 10 → TenOk m j) ↔ (TenOk m 0 ∧ TenOk m 1 ∧ TenOk m 2 ∧ TenOk m 3 ∧ TenOk m 4 ∧ TenOk m 5 ∧ TenOk m 6 ∧ TenOk m 7 ∧ TenOk m 8 ∧ TenOk m 9) := by
    constructor
    · intro h
      exact ⟨h 0 (by omega), h 1 (by omega), h 2 (by omega), h 3 (by omega), h 4 (by omega), h 5 (by omega), h 6 (by omega), h 7 (by omega), h 8 (by omega), h 9 (by omega)⟩
    · rintro ⟨h0, h1, h2, h3, h4, h5, h6, h7, h8, h9⟩ j hj
      match j, hj with
      | 0, _ => exact h0
      | 1, _ => exact h1
      | 2, _ => exact h2
      | 3, _ => exact h3
      | 4, _ => exact h4
      | 5, _ => exact h5
      | 6, _ => exact h6
      | 7, _ => exact h7
      | 8, _ => exact h8
      | 9, _ => exact h9
      | j + 10, hj => exact absurd hj (by omega)
  have hb : (∀ j, j < m.blocks.length → Good m.next m.blocks j) ↔ (m.blocks.all (infB m.next) = true ∧ riseB m.blocks = true) := by
    rw [riseB_iff]
    unfold Good
    constructor
    · intro h
      refine ⟨?_, fun j hj => (h j hj).2⟩
      rw [List.all_eq_true]
      intro x hx
      obtain ⟨j, hj, rfl⟩ := List.getElem_of_mem hx
      have := (h j hj).1
      rwa [getElem!_pos m.blocks j hj] at this
    · rintro ⟨h1, h2⟩ j hj
      rw [List.all_eq_true] at h1
      refine ⟨?_, h2 j hj⟩
      rw [getElem!_pos m.blocks j hj]
      exact h1 _ (List.getElem_mem hj)
  rw [ht, hb]
  unfold Man.fit
  simp only [Bool.and_eq_true]
  simp only [TenOk, widthB, timeB, loI, hiI, tenI, Man.tens, Bool.and_eq_true, decide_eq_true_eq]
  constructor
  · rintro ⟨⟨⟨⟨⟨⟨⟨⟨⟨⟨⟨⟨⟨⟨⟨h1, h2⟩, h3⟩, h4⟩, h5⟩, h6⟩, h7⟩, h8⟩, h9⟩, h10⟩, h11⟩, h12⟩, h13⟩, h14⟩, h15⟩, h16⟩
    exact ⟨⟨h1, h4, h7, h2, h5, h8, h3, h6, h9, h10⟩, ⟨h15, h16⟩, h11, h12, h13, h14⟩
  · rintro ⟨⟨h1, h4, h7, h2, h5, h8, h3, h6, h9, h10⟩, ⟨h15, h16⟩, h11, h12, h13, h14⟩
    exact ⟨⟨⟨⟨⟨⟨⟨⟨⟨⟨⟨⟨⟨⟨⟨h1, h2⟩, h3⟩, h4⟩, h5⟩, h6⟩, h7⟩, h8⟩, h9⟩, h10⟩, h11⟩, h12⟩, h13⟩, h14⟩, h15⟩, h16⟩
/-- What fit keeps in its hands. -/
structure FitAt (w : World) (m : Man) (A : Option Addr) (c : Nat) (g0 c0 g1 c1 g2 c2 : Nat) (wr : World) : Prop where
  below : Below w.heap.size w wr
  blk : Blk wr w.heap.size 25 (manV m (.slice A m.blocks.length c))
  o0 : wr.ownsRow (w.heap.size + 1) 114 1 (.slice (some ⟨g0, 0, none⟩) 10 c0) 10 (tenP w.heap.size)
  o1 : wr.ownsRow (w.heap.size + 1) 2 1 (.slice (some ⟨g1, 0, none⟩) 10 c1) 10 tenL
  o2 : wr.ownsRow (w.heap.size + 1) 2 1 (.slice (some ⟨g2, 0, none⟩) 10 c2) 10 tenG
theorem FitAt.drew {w : World} {m : Man} {A : Option Addr} {c g0 c0 g1 c1 g2 c2 : Nat} {wr : World} (h : FitAt w m A c g0 c0 g1 c1 g2 c2 wr) : FitAt w m A c g0 c0 g1 c1 g2 c2 wr.drew :=
  ⟨h.below.drew, h.blk.drew, h.o0.drew, h.o1.drew, h.o2.drew⟩
theorem FitAt.alloc {w : World} {m : Man} {A : Option Addr} {c g0 c0 g1 c1 g2 c2 : Nat} {wr : World} (h : FitAt w m A c g0 c0 g1 c1 g2 c2 wr) (o : Obj) : FitAt w m A c g0 c0 g1 c1 g2 c2 (wr.alloc o) :=
  ⟨h.below.alloc h.below.size _, h.blk.alloc _, h.o0.alloc _, h.o1.alloc _, h.o2.alloc _⟩
end Go.Proofs.YtfpgbhimgfdddaaGreatDoor
