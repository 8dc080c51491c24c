/- Merged (what the claim wants of): StoWalksB, StoWalksC. -/
import Derived.Test.YtfpgbhimgfdddaaGreatDoorStk24
import Derived.Test.YtfpgbhimgfdddaaGreatDoorStk23
import Derived.Deep.AppendLies
import Derived.Deep.RegionLaw
set_option linter.unusedVariables false
set_option linter.unusedSimpArgs false
/- The walks of layer 20 (store): a manifest's numbers. -/
namespace Go.Proofs.YtfpgbhimgfdddaaGreatDoor
open Go.RowKit Go.Shelf Go.Sort
attribute [local go_sem ↓] Go.wp_at_zero Go.wp_at_succ
attribute [local go_sem] Later.cell Later.frozen

theorem info_i64 : (Tryz.prog.info? 2).map (fun i => (i.zero, i.size, i.bytes)) = some (some (.int .i64 0), 1, 8) := by kernel_rfl
theorem info_p64 : (Tryz.prog.info? 114).map (fun i => (i.zero, i.size, i.bytes)) = some (some (.pointer none), 1, 8) := by kernel_rfl
/-- Three boxes at b0, b0 + 1, b0 + 2 with three rows of n. -/
structure Num3 (w : World) (b0 n : Nat) (ps ls gs : List Value) : Prop where
  ex : ∃ vo vl vg, Blk w b0 111 #[vo] ∧ Blk w (b0 + 1) 107 #[vl] ∧ Blk w (b0 + 2) 107 #[vg] ∧
    w.ownsRow (b0 + 3) 114 1 vo n ps ∧ w.ownsRow (b0 + 3) 2 1 vl n ls ∧ w.ownsRow (b0 + 3) 2 1 vg n gs ∧
    (∀ x, vo.ownBlock = some x → vl.ownBlock ≠ some x ∧ vg.ownBlock ≠ some x) ∧ (∀ x, vl.ownBlock = some x → vg.ownBlock ≠ some x)
/-- One of the three appends, on the way. -/
structure PS (w : World) (B n : Nat) (T : TypeId) (v : Value) (xs : List Value) (x : Value) (curs : List Value) (ld mv bs ap : Bool) (sl sm sb sa cur : Value) : Prop where
  l : ld = true → sl = v
  m : mv = true → sm = x
  b : bs = true → ∃ g, sb = .slice (some ⟨g, 0, none⟩) 1 1 ∧ w.cell? ⟨g, 0, none⟩ = some x ∧ g < w.heap.size ∧ ∀ y ∈ curs, y.ownBlock ≠ some g
  r0 : ap = false → cur = v ∧ w.ownsRow B T 1 v n xs
  r1 : ap = true → sa = cur ∧ w.ownsRow B T 1 cur (n + 1) (xs ++ [x])
theorem PS.owns {w : World} {B n : Nat} {T : TypeId} {v : Value} {xs : List Value} {x : Value} {curs : List Value} {ld mv bs ap : Bool} {sl sm sb sa cur : Value} (h : PS w B n T v xs x curs ld mv bs ap sl sm sb sa cur) : ∃ k ys, w.ownsRow B T 1 cur k ys := by
  cases ap with
  | false => obtain ⟨rfl, h1⟩ := h.r0 rfl; exact ⟨_, _, h1⟩
  | true => exact ⟨_, _, (h.r1 rfl).2⟩
theorem PS.keep {w w' : World} {B n : Nat} {T : TypeId} {v : Value} {xs : List Value} {x : Value} {curs curs' : List Value} {ld mv bs ap : Bool} {sl sm sb sa cur : Value} (h : PS w B n T v xs x curs ld mv bs ap sl sm sb sa cur) (zo : Option Nat)
    (hs : w.heap.size ≤ w'.heap.size) (hk : ∀ j, j < w.heap.size → zo ≠ some j → w'.heap[j]? = w.heap[j]?) (hz : ∀ g, zo = some g → cur.ownBlock ≠ some g) (hzc : ∀ g, zo = some g → ∃ y ∈ curs, y.ownBlock = some g)
    (hcu : ∀ y ∈ curs', (∃ z ∈ curs, y.ownBlock = z.ownBlock) ∨ ∀ g, y.ownBlock = some g → w.heap.size ≤ g) : PS w' B n T v xs x curs' ld mv bs ap sl sm sb sa cur := by
  have hrow : ∀ {k : Nat} {ys : List Value}, w.ownsRow B T 1 cur k ys → w'.ownsRow B T 1 cur k ys := fun hr => ownsRow.same hr fun g hg => hk g (World.ownsRow.lt hr g hg).2 (fun e => hz g e hg)
  refine ⟨h.l, h.m, fun hb => ?_, fun ha => ?_, fun ha => ⟨(h.r1 ha).1, hrow (h.r1 ha).2⟩⟩
  · obtain ⟨g, h1, h2, h3, h4⟩ := h.b hb
    refine ⟨g, h1, ?_, by omega, fun y hy => ?_⟩
    · rw [← h2]
      exact World.cell?_of_block (hk g h3 (fun e => by obtain ⟨y, hy, hyg⟩ := hzc g e; exact h4 y hy hyg))
    · rcases hcu y hy with ⟨z, hz1, hz2⟩ | h5
      · rw [hz2]; exact h4 z hz1
      · intro e; have := h5 g e; omega
  · obtain ⟨rfl, h1⟩ := h.r0 ha
    exact ⟨rfl, hrow h1⟩
-- PRINTED by gen_num3.py
/-- The region of numbers$1, with the operations L behind it. -/
def Inv3 (w : World) (b0 n : Nat) (a : Addr) (lo hj : Int) (vo vl vg : Value) (ps ls gs : List Value) (L : Array Bool) (a' : Act) (w' : World) : Prop :=
  ∃ s9 s10 s11 s12 s13 s14 s15 s16 s17 s18 s19 s20 y0 y1 y2, a' = ⟨#[.pointer (some a), .int .i64 lo, .int .i64 hj, .pointer (some ⟨b0, 0, none⟩), .pointer (some ⟨b0 + 1, 0, none⟩), .pointer (some ⟨b0 + 2, 0, none⟩), undef, undef, undef, s9, s10, s11, s12, s13, s14, s15, s16, s17, s18, s19, s20], []⟩ ∧
    PS w' (b0 + 3) n 114 vo ps (.pointer (some a)) [y0, y1, y2] (L.getD 0 false) (L.getD 1 false) (L.getD 2 false) (L.getD 3 false) s9 s10 s11 s12 y0 ∧
    PS w' (b0 + 3) n 2 vl ls (.int .i64 lo) [y0, y1, y2] (L.getD 4 false) (L.getD 5 false) (L.getD 6 false) (L.getD 7 false) s13 s14 s15 s16 y1 ∧
    PS w' (b0 + 3) n 2 vg gs (.int .i64 hj) [y0, y1, y2] (L.getD 8 false) (L.getD 9 false) (L.getD 10 false) (L.getD 11 false) s17 s18 s19 s20 y2 ∧
    (∀ x, y0.ownBlock = some x → y1.ownBlock ≠ some x ∧ y2.ownBlock ≠ some x) ∧ (∀ x, y1.ownBlock = some x → y2.ownBlock ≠ some x) ∧ Below (b0 + 3) w w' ∧ L.size = 15
theorem flag_self {L : Array Bool} {i : Nat} (hL : L.size = 15) (hi : i < 15) : (L.setIfInBounds i true).getD i false = true := by
  rw [Array.getD_eq_getD_getElem?, Array.getElem?_setIfInBounds_self_of_lt (by omega)]
  rfl
theorem flag_ne {L : Array Bool} {i j : Nat} (h : i ≠ j) : (L.setIfInBounds i true).getD j false = L.getD j false := getD_set_ne false h
theorem grown_low {w w' : World} {B : Nat} {row : Option Nat} (h : w.grownBy w' row) (hB : B ≤ w.heap.size) (hr : ∀ g, row = some g → B ≤ g) : Below B w w' :=
  ⟨h.os, h.tape, h.output, h.size, fun k hk => h.block k (by omega) (fun e => by have := hr k e.symm; omega)⟩
section
variable {w : World} {b0 n : Nat} {a : Addr} {lo hj : Int} {vo vl vg : Value} {ps ls gs : List Value} {L : Array Bool} {w' : World} {s9 s10 s11 s12 s13 s14 s15 s16 s17 s18 s19 s20 y0 y1 y2 : Value}
theorem inv3_load0 (hLs : L.size = 15) (p0 : PS w' (b0 + 3) n 114 vo ps (.pointer (some a)) [y0, y1, y2] (L.getD 0 false) (L.getD 1 false) (L.getD 2 false) (L.getD 3 false) s9 s10 s11 s12 y0) (p1 : PS w' (b0 + 3) n 2 vl ls (.int .i64 lo) [y0, y1, y2] (L.getD 4 false) (L.getD 5 false) (L.getD 6 false) (L.getD 7 false) s13 s14 s15 s16 y1) (p2 : PS w' (b0 + 3) n 2 vg gs (.int .i64 hj) [y0, y1, y2] (L.getD 8 false) (L.getD 9 false) (L.getD 10 false) (L.getD 11 false) s17 s18 s19 s20 y2) (d0 : ∀ x, y0.ownBlock = some x → y1.ownBlock ≠ some x ∧ y2.ownBlock ≠ some x) (d1 : ∀ x, y1.ownBlock = some x → y2.ownBlock ≠ some x) (hB : Below (b0 + 3) w w') : Inv3 w b0 n a lo hj vo vl vg ps ls gs (L.setIfInBounds 0 true) ⟨#[.pointer (some a), .int .i64 lo, .int .i64 hj, .pointer (some ⟨b0, 0, none⟩), .pointer (some ⟨b0 + 1, 0, none⟩), .pointer (some ⟨b0 + 2, 0, none⟩), undef, undef, undef, vo, s10, s11, s12, s13, s14, s15, s16, s17, s18, s19, s20], []⟩ w' := by
  have f0 : (L.setIfInBounds 0 true).getD 0 false = true := flag_self hLs (by decide)
  have f1 : (L.setIfInBounds 0 true).getD 1 false = L.getD 1 false := flag_ne (by decide)
  have f2 : (L.setIfInBounds 0 true).getD 2 false = L.getD 2 false := flag_ne (by decide)
  have f3 : (L.setIfInBounds 0 true).getD 3 false = L.getD 3 false := flag_ne (by decide)
  have f4 : (L.setIfInBounds 0 true).getD 4 false = L.getD 4 false := flag_ne (by decide)
  have f5 : (L.setIfInBounds 0 true).getD 5 false = L.getD 5 false := flag_ne (by decide)
  have f6 : (L.setIfInBounds 0 true).getD 6 false = L.getD 6 false := flag_ne (by decide)
  have f7 : (L.setIfInBounds 0 true).getD 7 false = L.getD 7 false := flag_ne (by decide)
  have f8 : (L.setIfInBounds 0 true).getD 8 false = L.getD 8 false := flag_ne (by decide)
  have f9 : (L.setIfInBounds 0 true).getD 9 false = L.getD 9 false := flag_ne (by decide)
  have f10 : (L.setIfInBounds 0 true).getD 10 false = L.getD 10 false := flag_ne (by decide)
  have f11 : (L.setIfInBounds 0 true).getD 11 false = L.getD 11 false := flag_ne (by decide)
  refine ⟨_, _, _, _, _, _, _, _, _, _, _, _, y0, y1, y2, rfl, ?_, ?_, ?_, d0, d1, hB, by simpa using hLs⟩
  · rw [f0, f1, f2, f3]; exact ⟨fun _ => rfl, p0.m, p0.b, p0.r0, p0.r1⟩
  · rw [f4, f5, f6, f7]; exact p1
  · rw [f8, f9, f10, f11]; exact p2
theorem inv3_move0 (hLs : L.size = 15) (p0 : PS w' (b0 + 3) n 114 vo ps (.pointer (some a)) [y0, y1, y2] (L.getD 0 false) (L.getD 1 false) (L.getD 2 false) (L.getD 3 false) s9 s10 s11 s12 y0) (p1 : PS w' (b0 + 3) n 2 vl ls (.int .i64 lo) [y0, y1, y2] (L.getD 4 false) (L.getD 5 false) (L.getD 6 false) (L.getD 7 false) s13 s14 s15 s16 y1) (p2 : PS w' (b0 + 3) n 2 vg gs (.int .i64 hj) [y0, y1, y2] (L.getD 8 false) (L.getD 9 false) (L.getD 10 false) (L.getD 11 false) s17 s18 s19 s20 y2) (d0 : ∀ x, y0.ownBlock = some x → y1.ownBlock ≠ some x ∧ y2.ownBlock ≠ some x) (d1 : ∀ x, y1.ownBlock = some x → y2.ownBlock ≠ some x) (hB : Below (b0 + 3) w w') : Inv3 w b0 n a lo hj vo vl vg ps ls gs (L.setIfInBounds 1 true) ⟨#[.pointer (some a), .int .i64 lo, .int .i64 hj, .pointer (some ⟨b0, 0, none⟩), .pointer (some ⟨b0 + 1, 0, none⟩), .pointer (some ⟨b0 + 2, 0, none⟩), undef, undef, undef, s9, .pointer (some a), s11, s12, s13, s14, s15, s16, s17, s18, s19, s20], []⟩ w' := by
  have f0 : (L.setIfInBounds 1 true).getD 0 false = L.getD 0 false := flag_ne (by decide)
  have f1 : (L.setIfInBounds 1 true).getD 1 false = true := flag_self hLs (by decide)
  have f2 : (L.setIfInBounds 1 true).getD 2 false = L.getD 2 false := flag_ne (by decide)
  have f3 : (L.setIfInBounds 1 true).getD 3 false = L.getD 3 false := flag_ne (by decide)
  have f4 : (L.setIfInBounds 1 true).getD 4 false = L.getD 4 false := flag_ne (by decide)
  have f5 : (L.setIfInBounds 1 true).getD 5 false = L.getD 5 false := flag_ne (by decide)
  have f6 : (L.setIfInBounds 1 true).getD 6 false = L.getD 6 false := flag_ne (by decide)
  have f7 : (L.setIfInBounds 1 true).getD 7 false = L.getD 7 false := flag_ne (by decide)
  have f8 : (L.setIfInBounds 1 true).getD 8 false = L.getD 8 false := flag_ne (by decide)
  have f9 : (L.setIfInBounds 1 true).getD 9 false = L.getD 9 false := flag_ne (by decide)
  have f10 : (L.setIfInBounds 1 true).getD 10 false = L.getD 10 false := flag_ne (by decide)
  have f11 : (L.setIfInBounds 1 true).getD 11 false = L.getD 11 false := flag_ne (by decide)
  refine ⟨_, _, _, _, _, _, _, _, _, _, _, _, y0, y1, y2, rfl, ?_, ?_, ?_, d0, d1, hB, by simpa using hLs⟩
  · rw [f0, f1, f2, f3]; exact ⟨p0.l, fun _ => rfl, p0.b, p0.r0, p0.r1⟩
  · rw [f4, f5, f6, f7]; exact p1
  · rw [f8, f9, f10, f11]; exact p2
theorem inv3_build0 (hLs : L.size = 15) (hB0 : b0 + 3 ≤ w'.heap.size) (p0 : PS w' (b0 + 3) n 114 vo ps (.pointer (some a)) [y0, y1, y2] (L.getD 0 false) (L.getD 1 false) (L.getD 2 false) (L.getD 3 false) s9 s10 s11 s12 y0) (p1 : PS w' (b0 + 3) n 2 vl ls (.int .i64 lo) [y0, y1, y2] (L.getD 4 false) (L.getD 5 false) (L.getD 6 false) (L.getD 7 false) s13 s14 s15 s16 y1) (p2 : PS w' (b0 + 3) n 2 vg gs (.int .i64 hj) [y0, y1, y2] (L.getD 8 false) (L.getD 9 false) (L.getD 10 false) (L.getD 11 false) s17 s18 s19 s20 y2) (d0 : ∀ x, y0.ownBlock = some x → y1.ownBlock ≠ some x ∧ y2.ownBlock ≠ some x) (d1 : ∀ x, y1.ownBlock = some x → y2.ownBlock ≠ some x) (hB : Below (b0 + 3) w w') : Inv3 w b0 n a lo hj vo vl vg ps ls gs (L.setIfInBounds 2 true) ⟨#[.pointer (some a), .int .i64 lo, .int .i64 hj, .pointer (some ⟨b0, 0, none⟩), .pointer (some ⟨b0 + 1, 0, none⟩), .pointer (some ⟨b0 + 2, 0, none⟩), undef, undef, undef, s9, s10, .slice (some ⟨w'.heap.size, 0, none⟩) 1 1, s12, s13, s14, s15, s16, s17, s18, s19, s20], []⟩ (w'.alloc (.cells #[.pointer (some a)] 114)) := by
  have f0 : (L.setIfInBounds 2 true).getD 0 false = L.getD 0 false := flag_ne (by decide)
  have f1 : (L.setIfInBounds 2 true).getD 1 false = L.getD 1 false := flag_ne (by decide)
  have f2 : (L.setIfInBounds 2 true).getD 2 false = true := flag_self hLs (by decide)
  have f3 : (L.setIfInBounds 2 true).getD 3 false = L.getD 3 false := flag_ne (by decide)
  have f4 : (L.setIfInBounds 2 true).getD 4 false = L.getD 4 false := flag_ne (by decide)
  have f5 : (L.setIfInBounds 2 true).getD 5 false = L.getD 5 false := flag_ne (by decide)
  have f6 : (L.setIfInBounds 2 true).getD 6 false = L.getD 6 false := flag_ne (by decide)
  have f7 : (L.setIfInBounds 2 true).getD 7 false = L.getD 7 false := flag_ne (by decide)
  have f8 : (L.setIfInBounds 2 true).getD 8 false = L.getD 8 false := flag_ne (by decide)
  have f9 : (L.setIfInBounds 2 true).getD 9 false = L.getD 9 false := flag_ne (by decide)
  have f10 : (L.setIfInBounds 2 true).getD 10 false = L.getD 10 false := flag_ne (by decide)
  have f11 : (L.setIfInBounds 2 true).getD 11 false = L.getD 11 false := flag_ne (by decide)
  have hsz : (w'.alloc (.cells #[.pointer (some a)] 114)).heap.size = w'.heap.size + 1 := by simp
  have hk : ∀ j, j < w'.heap.size → (w'.alloc (.cells #[.pointer (some a)] 114)).heap[j]? = w'.heap[j]? := fun j hj2 => Below.heap_alloc _ _ _ hj2
  have hcell : (w'.alloc (.cells #[.pointer (some a)] 114)).cell? ⟨w'.heap.size, 0, none⟩ = some (.pointer (some a)) := by simp [go_sem]
  have hcu : ∀ y ∈ [y0, y1, y2], (∃ z ∈ [y0, y1, y2], y.ownBlock = z.ownBlock) ∨ ∀ g, y.ownBlock = some g → w'.heap.size ≤ g := fun y hy => .inl ⟨y, hy, rfl⟩
  have q0 := p0.keep (curs' := [y0, y1, y2]) none (w' := w'.alloc (.cells #[.pointer (some a)] 114)) (by omega) (fun j hj2 _ => hk j hj2) (fun g e => by cases e) (fun g e => by cases e) hcu
  have q1 := p1.keep (curs' := [y0, y1, y2]) none (w' := w'.alloc (.cells #[.pointer (some a)] 114)) (by omega) (fun j hj2 _ => hk j hj2) (fun g e => by cases e) (fun g e => by cases e) hcu
  have q2 := p2.keep (curs' := [y0, y1, y2]) none (w' := w'.alloc (.cells #[.pointer (some a)] 114)) (by omega) (fun j hj2 _ => hk j hj2) (fun g e => by cases e) (fun g e => by cases e) hcu
  have hlt : ∀ y ∈ [y0, y1, y2], y.ownBlock ≠ some w'.heap.size := by
    intro y hy e
    obtain ⟨k0, z0, r0⟩ := p0.owns
    obtain ⟨k1, z1, r1⟩ := p1.owns
    obtain ⟨k2, z2, r2⟩ := p2.owns
    simp only [List.mem_cons, List.not_mem_nil, or_false] at hy
    rcases hy with rfl | rfl | rfl
    · exact absurd (World.ownsRow.lt r0 _ e).2 (Nat.lt_irrefl _)
    · exact absurd (World.ownsRow.lt r1 _ e).2 (Nat.lt_irrefl _)
    · exact absurd (World.ownsRow.lt r2 _ e).2 (Nat.lt_irrefl _)
  refine ⟨_, _, _, _, _, _, _, _, _, _, _, _, y0, y1, y2, rfl, ?_, ?_, ?_, d0, d1, hB.trans ⟨rfl, rfl, rfl, by omega, fun j hj2 => hk j (by have := hB0; omega)⟩, by simpa using hLs⟩
  · rw [f0, f1, f2, f3]; exact ⟨q0.l, q0.m, fun _ => ⟨_, rfl, hcell, by omega, hlt⟩, q0.r0, q0.r1⟩
  · rw [f4, f5, f6, f7]; exact q1
  · rw [f8, f9, f10, f11]; exact q2
theorem inv3_app0 (hLs : L.size = 15) (p0 : PS w' (b0 + 3) n 114 vo ps (.pointer (some a)) [y0, y1, y2] (L.getD 0 false) (L.getD 1 false) (L.getD 2 false) (L.getD 3 false) s9 s10 s11 s12 y0) (p1 : PS w' (b0 + 3) n 2 vl ls (.int .i64 lo) [y0, y1, y2] (L.getD 4 false) (L.getD 5 false) (L.getD 6 false) (L.getD 7 false) s13 s14 s15 s16 y1) (p2 : PS w' (b0 + 3) n 2 vg gs (.int .i64 hj) [y0, y1, y2] (L.getD 8 false) (L.getD 9 false) (L.getD 10 false) (L.getD 11 false) s17 s18 s19 s20 y2) (d0 : ∀ x, y0.ownBlock = some x → y1.ownBlock ≠ some x ∧ y2.ownBlock ≠ some x) (d1 : ∀ x, y1.ownBlock = some x → y2.ownBlock ≠ some x) (hB : Below (b0 + 3) w w') {w2 : World} {V : Value} {g : Nat} (hg : V.ownBlock = some g) (hrow : w2.ownsRow (b0 + 3) 114 1 V (n + 1) (ps ++ [.pointer (some a)])) (hgr : w'.grownBy w2 vo.ownBlock) (hat : vo.ownBlock = some g ∨ g = w'.heap.size) (hap : L.getD 3 false = false) (hB0 : b0 + 3 ≤ w'.heap.size) : Inv3 w b0 n a lo hj vo vl vg ps ls gs (L.setIfInBounds 3 true) ⟨#[.pointer (some a), .int .i64 lo, .int .i64 hj, .pointer (some ⟨b0, 0, none⟩), .pointer (some ⟨b0 + 1, 0, none⟩), .pointer (some ⟨b0 + 2, 0, none⟩), undef, undef, undef, s9, s10, s11, V, s13, s14, s15, s16, s17, s18, s19, s20], []⟩ w2 := by
  have f0 : (L.setIfInBounds 3 true).getD 0 false = L.getD 0 false := flag_ne (by decide)
  have f1 : (L.setIfInBounds 3 true).getD 1 false = L.getD 1 false := flag_ne (by decide)
  have f2 : (L.setIfInBounds 3 true).getD 2 false = L.getD 2 false := flag_ne (by decide)
  have f3 : (L.setIfInBounds 3 true).getD 3 false = true := flag_self hLs (by decide)
  have f4 : (L.setIfInBounds 3 true).getD 4 false = L.getD 4 false := flag_ne (by decide)
  have f5 : (L.setIfInBounds 3 true).getD 5 false = L.getD 5 false := flag_ne (by decide)
  have f6 : (L.setIfInBounds 3 true).getD 6 false = L.getD 6 false := flag_ne (by decide)
  have f7 : (L.setIfInBounds 3 true).getD 7 false = L.getD 7 false := flag_ne (by decide)
  have f8 : (L.setIfInBounds 3 true).getD 8 false = L.getD 8 false := flag_ne (by decide)
  have f9 : (L.setIfInBounds 3 true).getD 9 false = L.getD 9 false := flag_ne (by decide)
  have f10 : (L.setIfInBounds 3 true).getD 10 false = L.getD 10 false := flag_ne (by decide)
  have f11 : (L.setIfInBounds 3 true).getD 11 false = L.getD 11 false := flag_ne (by decide)
  obtain ⟨rfl, rold⟩ := p0.r0 hap
  obtain ⟨k0, z0, r0⟩ := p0.owns
  obtain ⟨k1, z1, r1⟩ := p1.owns
  obtain ⟨k2, z2, r2⟩ := p2.owns
  have l0 := World.ownsRow.lt r0
  have l1 := World.ownsRow.lt r1
  have l2 := World.ownsRow.lt r2
  have hcu : ∀ y ∈ [V, y1, y2], (∃ z ∈ [y0, y1, y2], y.ownBlock = z.ownBlock) ∨ ∀ g, y.ownBlock = some g → w'.heap.size ≤ g := by
    intro y hy
    simp only [List.mem_cons, List.not_mem_nil, or_false] at hy
    rcases hy with rfl | rfl | rfl
    · rcases hat with h | h
      · exact .inl ⟨y0, by simp, by rw [hg, h]⟩
      · exact .inr fun g2 e => by rw [hg] at e; injection e with e; omega
    · exact .inl ⟨_, by simp, rfl⟩
    · exact .inl ⟨_, by simp, rfl⟩
  have hk : ∀ j, j < w'.heap.size → y0.ownBlock ≠ some j → w2.heap[j]? = w'.heap[j]? := fun j hj2 hne => hgr.block j hj2 (fun e => hne e.symm)
  have q1 := p1.keep (curs' := [V, y1, y2]) (w' := w2) y0.ownBlock hgr.size hk (fun g e => (d0 g e).1) (fun g e => ⟨y0, by simp, e⟩) hcu
  have q2 := p2.keep (curs' := [V, y1, y2]) (w' := w2) y0.ownBlock hgr.size hk (fun g e => (d0 g e).2) (fun g e => ⟨y0, by simp, e⟩) hcu
  refine ⟨_, _, _, _, _, _, _, _, _, _, _, _, V, y1, y2, rfl, ?_, ?_, ?_, ?_, ?_, hB.trans (grown_low hgr hB0 fun g e => (World.ownsRow.lt rold g e).1), by simpa using hLs⟩
  · rw [f0, f1, f2, f3]
    refine ⟨p0.l, p0.m, fun hb => ?_, fun e => (by cases e), fun _ => ⟨rfl, hrow⟩⟩
    obtain ⟨g2, h1, h2, h3, h4⟩ := p0.b hb
    refine ⟨g2, h1, ?_, Nat.lt_of_lt_of_le h3 hgr.size, fun y hy => ?_⟩
    · rw [← h2]
      exact World.cell?_of_block (hk g2 h3 (h4 _ (by simp)))
    · rcases hcu y hy with ⟨z, hz1, hz2⟩ | h5
      · rw [hz2]; exact h4 z hz1
      · intro e; have := h5 g2 e; omega
  · rw [f4, f5, f6, f7]; exact q1
  · rw [f8, f9, f10, f11]; exact q2
  · intro x hx
    rw [hg] at hx
    injection hx with hx
    subst hx
    rcases hat with h | h
    · exact d0 g h
    · exact ⟨fun e => by have := (l1 g e).2; omega, fun e => by have := (l2 g e).2; omega⟩
  · exact d1
theorem inv3_load1 (hLs : L.size = 15) (p0 : PS w' (b0 + 3) n 114 vo ps (.pointer (some a)) [y0, y1, y2] (L.getD 0 false) (L.getD 1 false) (L.getD 2 false) (L.getD 3 false) s9 s10 s11 s12 y0) (p1 : PS w' (b0 + 3) n 2 vl ls (.int .i64 lo) [y0, y1, y2] (L.getD 4 false) (L.getD 5 false) (L.getD 6 false) (L.getD 7 false) s13 s14 s15 s16 y1) (p2 : PS w' (b0 + 3) n 2 vg gs (.int .i64 hj) [y0, y1, y2] (L.getD 8 false) (L.getD 9 false) (L.getD 10 false) (L.getD 11 false) s17 s18 s19 s20 y2) (d0 : ∀ x, y0.ownBlock = some x → y1.ownBlock ≠ some x ∧ y2.ownBlock ≠ some x) (d1 : ∀ x, y1.ownBlock = some x → y2.ownBlock ≠ some x) (hB : Below (b0 + 3) w w') : Inv3 w b0 n a lo hj vo vl vg ps ls gs (L.setIfInBounds 4 true) ⟨#[.pointer (some a), .int .i64 lo, .int .i64 hj, .pointer (some ⟨b0, 0, none⟩), .pointer (some ⟨b0 + 1, 0, none⟩), .pointer (some ⟨b0 + 2, 0, none⟩), undef, undef, undef, s9, s10, s11, s12, vl, s14, s15, s16, s17, s18, s19, s20], []⟩ w' := by
  have f0 : (L.setIfInBounds 4 true).getD 0 false = L.getD 0 false := flag_ne (by decide)
  have f1 : (L.setIfInBounds 4 true).getD 1 false = L.getD 1 false := flag_ne (by decide)
  have f2 : (L.setIfInBounds 4 true).getD 2 false = L.getD 2 false := flag_ne (by decide)
  have f3 : (L.setIfInBounds 4 true).getD 3 false = L.getD 3 false := flag_ne (by decide)
  have f4 : (L.setIfInBounds 4 true).getD 4 false = true := flag_self hLs (by decide)
  have f5 : (L.setIfInBounds 4 true).getD 5 false = L.getD 5 false := flag_ne (by decide)
  have f6 : (L.setIfInBounds 4 true).getD 6 false = L.getD 6 false := flag_ne (by decide)
  have f7 : (L.setIfInBounds 4 true).getD 7 false = L.getD 7 false := flag_ne (by decide)
  have f8 : (L.setIfInBounds 4 true).getD 8 false = L.getD 8 false := flag_ne (by decide)
  have f9 : (L.setIfInBounds 4 true).getD 9 false = L.getD 9 false := flag_ne (by decide)
  have f10 : (L.setIfInBounds 4 true).getD 10 false = L.getD 10 false := flag_ne (by decide)
  have f11 : (L.setIfInBounds 4 true).getD 11 false = L.getD 11 false := flag_ne (by decide)
  refine ⟨_, _, _, _, _, _, _, _, _, _, _, _, y0, y1, y2, rfl, ?_, ?_, ?_, d0, d1, hB, by simpa using hLs⟩
  · rw [f0, f1, f2, f3]; exact p0
  · rw [f4, f5, f6, f7]; exact ⟨fun _ => rfl, p1.m, p1.b, p1.r0, p1.r1⟩
  · rw [f8, f9, f10, f11]; exact p2
theorem inv3_move1 (hLs : L.size = 15) (p0 : PS w' (b0 + 3) n 114 vo ps (.pointer (some a)) [y0, y1, y2] (L.getD 0 false) (L.getD 1 false) (L.getD 2 false) (L.getD 3 false) s9 s10 s11 s12 y0) (p1 : PS w' (b0 + 3) n 2 vl ls (.int .i64 lo) [y0, y1, y2] (L.getD 4 false) (L.getD 5 false) (L.getD 6 false) (L.getD 7 false) s13 s14 s15 s16 y1) (p2 : PS w' (b0 + 3) n 2 vg gs (.int .i64 hj) [y0, y1, y2] (L.getD 8 false) (L.getD 9 false) (L.getD 10 false) (L.getD 11 false) s17 s18 s19 s20 y2) (d0 : ∀ x, y0.ownBlock = some x → y1.ownBlock ≠ some x ∧ y2.ownBlock ≠ some x) (d1 : ∀ x, y1.ownBlock = some x → y2.ownBlock ≠ some x) (hB : Below (b0 + 3) w w') : Inv3 w b0 n a lo hj vo vl vg ps ls gs (L.setIfInBounds 5 true) ⟨#[.pointer (some a), .int .i64 lo, .int .i64 hj, .pointer (some ⟨b0, 0, none⟩), .pointer (some ⟨b0 + 1, 0, none⟩), .pointer (some ⟨b0 + 2, 0, none⟩), undef, undef, undef, s9, s10, s11, s12, s13, .int .i64 lo, s15, s16, s17, s18, s19, s20], []⟩ w' := by
  have f0 : (L.setIfInBounds 5 true).getD 0 false = L.getD 0 false := flag_ne (by decide)
  have f1 : (L.setIfInBounds 5 true).getD 1 false = L.getD 1 false := flag_ne (by decide)
  have f2 : (L.setIfInBounds 5 true).getD 2 false = L.getD 2 false := flag_ne (by decide)
  have f3 : (L.setIfInBounds 5 true).getD 3 false = L.getD 3 false := flag_ne (by decide)
  have f4 : (L.setIfInBounds 5 true).getD 4 false = L.getD 4 false := flag_ne (by decide)
  have f5 : (L.setIfInBounds 5 true).getD 5 false = true := flag_self hLs (by decide)
  have f6 : (L.setIfInBounds 5 true).getD 6 false = L.getD 6 false := flag_ne (by decide)
  have f7 : (L.setIfInBounds 5 true).getD 7 false = L.getD 7 false := flag_ne (by decide)
  have f8 : (L.setIfInBounds 5 true).getD 8 false = L.getD 8 false := flag_ne (by decide)
  have f9 : (L.setIfInBounds 5 true).getD 9 false = L.getD 9 false := flag_ne (by decide)
  have f10 : (L.setIfInBounds 5 true).getD 10 false = L.getD 10 false := flag_ne (by decide)
  have f11 : (L.setIfInBounds 5 true).getD 11 false = L.getD 11 false := flag_ne (by decide)
  refine ⟨_, _, _, _, _, _, _, _, _, _, _, _, y0, y1, y2, rfl, ?_, ?_, ?_, d0, d1, hB, by simpa using hLs⟩
  · rw [f0, f1, f2, f3]; exact p0
  · rw [f4, f5, f6, f7]; exact ⟨p1.l, fun _ => rfl, p1.b, p1.r0, p1.r1⟩
  · rw [f8, f9, f10, f11]; exact p2
theorem inv3_build1 (hLs : L.size = 15) (hB0 : b0 + 3 ≤ w'.heap.size) (p0 : PS w' (b0 + 3) n 114 vo ps (.pointer (some a)) [y0, y1, y2] (L.getD 0 false) (L.getD 1 false) (L.getD 2 false) (L.getD 3 false) s9 s10 s11 s12 y0) (p1 : PS w' (b0 + 3) n 2 vl ls (.int .i64 lo) [y0, y1, y2] (L.getD 4 false) (L.getD 5 false) (L.getD 6 false) (L.getD 7 false) s13 s14 s15 s16 y1) (p2 : PS w' (b0 + 3) n 2 vg gs (.int .i64 hj) [y0, y1, y2] (L.getD 8 false) (L.getD 9 false) (L.getD 10 false) (L.getD 11 false) s17 s18 s19 s20 y2) (d0 : ∀ x, y0.ownBlock = some x → y1.ownBlock ≠ some x ∧ y2.ownBlock ≠ some x) (d1 : ∀ x, y1.ownBlock = some x → y2.ownBlock ≠ some x) (hB : Below (b0 + 3) w w') : Inv3 w b0 n a lo hj vo vl vg ps ls gs (L.setIfInBounds 6 true) ⟨#[.pointer (some a), .int .i64 lo, .int .i64 hj, .pointer (some ⟨b0, 0, none⟩), .pointer (some ⟨b0 + 1, 0, none⟩), .pointer (some ⟨b0 + 2, 0, none⟩), undef, undef, undef, s9, s10, s11, s12, s13, s14, .slice (some ⟨w'.heap.size, 0, none⟩) 1 1, s16, s17, s18, s19, s20], []⟩ (w'.alloc (.cells #[.int .i64 lo] 2)) := by
  have f0 : (L.setIfInBounds 6 true).getD 0 false = L.getD 0 false := flag_ne (by decide)
  have f1 : (L.setIfInBounds 6 true).getD 1 false = L.getD 1 false := flag_ne (by decide)
  have f2 : (L.setIfInBounds 6 true).getD 2 false = L.getD 2 false := flag_ne (by decide)
  have f3 : (L.setIfInBounds 6 true).getD 3 false = L.getD 3 false := flag_ne (by decide)
  have f4 : (L.setIfInBounds 6 true).getD 4 false = L.getD 4 false := flag_ne (by decide)
  have f5 : (L.setIfInBounds 6 true).getD 5 false = L.getD 5 false := flag_ne (by decide)
  have f6 : (L.setIfInBounds 6 true).getD 6 false = true := flag_self hLs (by decide)
  have f7 : (L.setIfInBounds 6 true).getD 7 false = L.getD 7 false := flag_ne (by decide)
  have f8 : (L.setIfInBounds 6 true).getD 8 false = L.getD 8 false := flag_ne (by decide)
  have f9 : (L.setIfInBounds 6 true).getD 9 false = L.getD 9 false := flag_ne (by decide)
  have f10 : (L.setIfInBounds 6 true).getD 10 false = L.getD 10 false := flag_ne (by decide)
  have f11 : (L.setIfInBounds 6 true).getD 11 false = L.getD 11 false := flag_ne (by decide)
  have hsz : (w'.alloc (.cells #[.int .i64 lo] 2)).heap.size = w'.heap.size + 1 := by simp
  have hk : ∀ j, j < w'.heap.size → (w'.alloc (.cells #[.int .i64 lo] 2)).heap[j]? = w'.heap[j]? := fun j hj2 => Below.heap_alloc _ _ _ hj2
  have hcell : (w'.alloc (.cells #[.int .i64 lo] 2)).cell? ⟨w'.heap.size, 0, none⟩ = some (.int .i64 lo) := by simp [go_sem]
  have hcu : ∀ y ∈ [y0, y1, y2], (∃ z ∈ [y0, y1, y2], y.ownBlock = z.ownBlock) ∨ ∀ g, y.ownBlock = some g → w'.heap.size ≤ g := fun y hy => .inl ⟨y, hy, rfl⟩
  have q0 := p0.keep (curs' := [y0, y1, y2]) none (w' := w'.alloc (.cells #[.int .i64 lo] 2)) (by omega) (fun j hj2 _ => hk j hj2) (fun g e => by cases e) (fun g e => by cases e) hcu
  have q1 := p1.keep (curs' := [y0, y1, y2]) none (w' := w'.alloc (.cells #[.int .i64 lo] 2)) (by omega) (fun j hj2 _ => hk j hj2) (fun g e => by cases e) (fun g e => by cases e) hcu
  have q2 := p2.keep (curs' := [y0, y1, y2]) none (w' := w'.alloc (.cells #[.int .i64 lo] 2)) (by omega) (fun j hj2 _ => hk j hj2) (fun g e => by cases e) (fun g e => by cases e) hcu
  have hlt : ∀ y ∈ [y0, y1, y2], y.ownBlock ≠ some w'.heap.size := by
    intro y hy e
    obtain ⟨k0, z0, r0⟩ := p0.owns
    obtain ⟨k1, z1, r1⟩ := p1.owns
    obtain ⟨k2, z2, r2⟩ := p2.owns
    simp only [List.mem_cons, List.not_mem_nil, or_false] at hy
    rcases hy with rfl | rfl | rfl
    · exact absurd (World.ownsRow.lt r0 _ e).2 (Nat.lt_irrefl _)
    · exact absurd (World.ownsRow.lt r1 _ e).2 (Nat.lt_irrefl _)
    · exact absurd (World.ownsRow.lt r2 _ e).2 (Nat.lt_irrefl _)
  refine ⟨_, _, _, _, _, _, _, _, _, _, _, _, y0, y1, y2, rfl, ?_, ?_, ?_, d0, d1, hB.trans ⟨rfl, rfl, rfl, by omega, fun j hj2 => hk j (by have := hB0; omega)⟩, by simpa using hLs⟩
  · rw [f0, f1, f2, f3]; exact q0
  · rw [f4, f5, f6, f7]; exact ⟨q1.l, q1.m, fun _ => ⟨_, rfl, hcell, by omega, hlt⟩, q1.r0, q1.r1⟩
  · rw [f8, f9, f10, f11]; exact q2
theorem inv3_app1 (hLs : L.size = 15) (p0 : PS w' (b0 + 3) n 114 vo ps (.pointer (some a)) [y0, y1, y2] (L.getD 0 false) (L.getD 1 false) (L.getD 2 false) (L.getD 3 false) s9 s10 s11 s12 y0) (p1 : PS w' (b0 + 3) n 2 vl ls (.int .i64 lo) [y0, y1, y2] (L.getD 4 false) (L.getD 5 false) (L.getD 6 false) (L.getD 7 false) s13 s14 s15 s16 y1) (p2 : PS w' (b0 + 3) n 2 vg gs (.int .i64 hj) [y0, y1, y2] (L.getD 8 false) (L.getD 9 false) (L.getD 10 false) (L.getD 11 false) s17 s18 s19 s20 y2) (d0 : ∀ x, y0.ownBlock = some x → y1.ownBlock ≠ some x ∧ y2.ownBlock ≠ some x) (d1 : ∀ x, y1.ownBlock = some x → y2.ownBlock ≠ some x) (hB : Below (b0 + 3) w w') {w2 : World} {V : Value} {g : Nat} (hg : V.ownBlock = some g) (hrow : w2.ownsRow (b0 + 3) 2 1 V (n + 1) (ls ++ [.int .i64 lo])) (hgr : w'.grownBy w2 vl.ownBlock) (hat : vl.ownBlock = some g ∨ g = w'.heap.size) (hap : L.getD 7 false = false) (hB0 : b0 + 3 ≤ w'.heap.size) : Inv3 w b0 n a lo hj vo vl vg ps ls gs (L.setIfInBounds 7 true) ⟨#[.pointer (some a), .int .i64 lo, .int .i64 hj, .pointer (some ⟨b0, 0, none⟩), .pointer (some ⟨b0 + 1, 0, none⟩), .pointer (some ⟨b0 + 2, 0, none⟩), undef, undef, undef, s9, s10, s11, s12, s13, s14, s15, V, s17, s18, s19, s20], []⟩ w2 := by
  have f0 : (L.setIfInBounds 7 true).getD 0 false = L.getD 0 false := flag_ne (by decide)
  have f1 : (L.setIfInBounds 7 true).getD 1 false = L.getD 1 false := flag_ne (by decide)
  have f2 : (L.setIfInBounds 7 true).getD 2 false = L.getD 2 false := flag_ne (by decide)
  have f3 : (L.setIfInBounds 7 true).getD 3 false = L.getD 3 false := flag_ne (by decide)
  have f4 : (L.setIfInBounds 7 true).getD 4 false = L.getD 4 false := flag_ne (by decide)
  have f5 : (L.setIfInBounds 7 true).getD 5 false = L.getD 5 false := flag_ne (by decide)
  have f6 : (L.setIfInBounds 7 true).getD 6 false = L.getD 6 false := flag_ne (by decide)
  have f7 : (L.setIfInBounds 7 true).getD 7 false = true := flag_self hLs (by decide)
  have f8 : (L.setIfInBounds 7 true).getD 8 false = L.getD 8 false := flag_ne (by decide)
  have f9 : (L.setIfInBounds 7 true).getD 9 false = L.getD 9 false := flag_ne (by decide)
  have f10 : (L.setIfInBounds 7 true).getD 10 false = L.getD 10 false := flag_ne (by decide)
  have f11 : (L.setIfInBounds 7 true).getD 11 false = L.getD 11 false := flag_ne (by decide)
  obtain ⟨rfl, rold⟩ := p1.r0 hap
  obtain ⟨k0, z0, r0⟩ := p0.owns
  obtain ⟨k1, z1, r1⟩ := p1.owns
  obtain ⟨k2, z2, r2⟩ := p2.owns
  have l0 := World.ownsRow.lt r0
  have l1 := World.ownsRow.lt r1
  have l2 := World.ownsRow.lt r2
  have hcu : ∀ y ∈ [y0, V, y2], (∃ z ∈ [y0, y1, y2], y.ownBlock = z.ownBlock) ∨ ∀ g, y.ownBlock = some g → w'.heap.size ≤ g := by
    intro y hy
    simp only [List.mem_cons, List.not_mem_nil, or_false] at hy
    rcases hy with rfl | rfl | rfl
    · exact .inl ⟨_, by simp, rfl⟩
    · rcases hat with h | h
      · exact .inl ⟨y1, by simp, by rw [hg, h]⟩
      · exact .inr fun g2 e => by rw [hg] at e; injection e with e; omega
    · exact .inl ⟨_, by simp, rfl⟩
  have hk : ∀ j, j < w'.heap.size → y1.ownBlock ≠ some j → w2.heap[j]? = w'.heap[j]? := fun j hj2 hne => hgr.block j hj2 (fun e => hne e.symm)
  have q0 := p0.keep (curs' := [y0, V, y2]) (w' := w2) y1.ownBlock hgr.size hk (fun g e e2 => (d0 g e2).1 e) (fun g e => ⟨y1, by simp, e⟩) hcu
  have q2 := p2.keep (curs' := [y0, V, y2]) (w' := w2) y1.ownBlock hgr.size hk (fun g e => (d1 g e)) (fun g e => ⟨y1, by simp, e⟩) hcu
  refine ⟨_, _, _, _, _, _, _, _, _, _, _, _, y0, V, y2, rfl, ?_, ?_, ?_, ?_, ?_, hB.trans (grown_low hgr hB0 fun g e => (World.ownsRow.lt rold g e).1), by simpa using hLs⟩
  · rw [f0, f1, f2, f3]; exact q0
  · rw [f4, f5, f6, f7]
    refine ⟨p1.l, p1.m, fun hb => ?_, fun e => (by cases e), fun _ => ⟨rfl, hrow⟩⟩
    obtain ⟨g2, h1, h2, h3, h4⟩ := p1.b hb
    refine ⟨g2, h1, ?_, Nat.lt_of_lt_of_le h3 hgr.size, fun y hy => ?_⟩
    · rw [← h2]
      exact World.cell?_of_block (hk g2 h3 (h4 _ (by simp)))
    · rcases hcu y hy with ⟨z, hz1, hz2⟩ | h5
      · rw [hz2]; exact h4 z hz1
      · intro e; have := h5 g2 e; omega
  · rw [f8, f9, f10, f11]; exact q2
  · intro x hx
    refine ⟨fun e => ?_, (d0 x hx).2⟩
    rw [hg] at e
    injection e with e
    subst e
    rcases hat with h | h
    · exact (d0 g hx).1 h
    · have := (l0 g hx).2; omega
  · intro x hx e
    rw [hg] at hx
    injection hx with hx
    subst hx
    rcases hat with h | h
    · exact d1 g h e
    · have := (l2 g e).2; omega
theorem inv3_load2 (hLs : L.size = 15) (p0 : PS w' (b0 + 3) n 114 vo ps (.pointer (some a)) [y0, y1, y2] (L.getD 0 false) (L.getD 1 false) (L.getD 2 false) (L.getD 3 false) s9 s10 s11 s12 y0) (p1 : PS w' (b0 + 3) n 2 vl ls (.int .i64 lo) [y0, y1, y2] (L.getD 4 false) (L.getD 5 false) (L.getD 6 false) (L.getD 7 false) s13 s14 s15 s16 y1) (p2 : PS w' (b0 + 3) n 2 vg gs (.int .i64 hj) [y0, y1, y2] (L.getD 8 false) (L.getD 9 false) (L.getD 10 false) (L.getD 11 false) s17 s18 s19 s20 y2) (d0 : ∀ x, y0.ownBlock = some x → y1.ownBlock ≠ some x ∧ y2.ownBlock ≠ some x) (d1 : ∀ x, y1.ownBlock = some x → y2.ownBlock ≠ some x) (hB : Below (b0 + 3) w w') : Inv3 w b0 n a lo hj vo vl vg ps ls gs (L.setIfInBounds 8 true) ⟨#[.pointer (some a), .int .i64 lo, .int .i64 hj, .pointer (some ⟨b0, 0, none⟩), .pointer (some ⟨b0 + 1, 0, none⟩), .pointer (some ⟨b0 + 2, 0, none⟩), undef, undef, undef, s9, s10, s11, s12, s13, s14, s15, s16, vg, s18, s19, s20], []⟩ w' := by
  have f0 : (L.setIfInBounds 8 true).getD 0 false = L.getD 0 false := flag_ne (by decide)
  have f1 : (L.setIfInBounds 8 true).getD 1 false = L.getD 1 false := flag_ne (by decide)
  have f2 : (L.setIfInBounds 8 true).getD 2 false = L.getD 2 false := flag_ne (by decide)
  have f3 : (L.setIfInBounds 8 true).getD 3 false = L.getD 3 false := flag_ne (by decide)
  have f4 : (L.setIfInBounds 8 true).getD 4 false = L.getD 4 false := flag_ne (by decide)
  have f5 : (L.setIfInBounds 8 true).getD 5 false = L.getD 5 false := flag_ne (by decide)
  have f6 : (L.setIfInBounds 8 true).getD 6 false = L.getD 6 false := flag_ne (by decide)
  have f7 : (L.setIfInBounds 8 true).getD 7 false = L.getD 7 false := flag_ne (by decide)
  have f8 : (L.setIfInBounds 8 true).getD 8 false = true := flag_self hLs (by decide)
  have f9 : (L.setIfInBounds 8 true).getD 9 false = L.getD 9 false := flag_ne (by decide)
  have f10 : (L.setIfInBounds 8 true).getD 10 false = L.getD 10 false := flag_ne (by decide)
  have f11 : (L.setIfInBounds 8 true).getD 11 false = L.getD 11 false := flag_ne (by decide)
  refine ⟨_, _, _, _, _, _, _, _, _, _, _, _, y0, y1, y2, rfl, ?_, ?_, ?_, d0, d1, hB, by simpa using hLs⟩
  · rw [f0, f1, f2, f3]; exact p0
  · rw [f4, f5, f6, f7]; exact p1
  · rw [f8, f9, f10, f11]; exact ⟨fun _ => rfl, p2.m, p2.b, p2.r0, p2.r1⟩
theorem inv3_move2 (hLs : L.size = 15) (p0 : PS w' (b0 + 3) n 114 vo ps (.pointer (some a)) [y0, y1, y2] (L.getD 0 false) (L.getD 1 false) (L.getD 2 false) (L.getD 3 false) s9 s10 s11 s12 y0) (p1 : PS w' (b0 + 3) n 2 vl ls (.int .i64 lo) [y0, y1, y2] (L.getD 4 false) (L.getD 5 false) (L.getD 6 false) (L.getD 7 false) s13 s14 s15 s16 y1) (p2 : PS w' (b0 + 3) n 2 vg gs (.int .i64 hj) [y0, y1, y2] (L.getD 8 false) (L.getD 9 false) (L.getD 10 false) (L.getD 11 false) s17 s18 s19 s20 y2) (d0 : ∀ x, y0.ownBlock = some x → y1.ownBlock ≠ some x ∧ y2.ownBlock ≠ some x) (d1 : ∀ x, y1.ownBlock = some x → y2.ownBlock ≠ some x) (hB : Below (b0 + 3) w w') : Inv3 w b0 n a lo hj vo vl vg ps ls gs (L.setIfInBounds 9 true) ⟨#[.pointer (some a), .int .i64 lo, .int .i64 hj, .pointer (some ⟨b0, 0, none⟩), .pointer (some ⟨b0 + 1, 0, none⟩), .pointer (some ⟨b0 + 2, 0, none⟩), undef, undef, undef, s9, s10, s11, s12, s13, s14, s15, s16, s17, .int .i64 hj, s19, s20], []⟩ w' := by
  have f0 : (L.setIfInBounds 9 true).getD 0 false = L.getD 0 false := flag_ne (by decide)
  have f1 : (L.setIfInBounds 9 true).getD 1 false = L.getD 1 false := flag_ne (by decide)
  have f2 : (L.setIfInBounds 9 true).getD 2 false = L.getD 2 false := flag_ne (by decide)
  have f3 : (L.setIfInBounds 9 true).getD 3 false = L.getD 3 false := flag_ne (by decide)
  have f4 : (L.setIfInBounds 9 true).getD 4 false = L.getD 4 false := flag_ne (by decide)
  have f5 : (L.setIfInBounds 9 true).getD 5 false = L.getD 5 false := flag_ne (by decide)
  have f6 : (L.setIfInBounds 9 true).getD 6 false = L.getD 6 false := flag_ne (by decide)
  have f7 : (L.setIfInBounds 9 true).getD 7 false = L.getD 7 false := flag_ne (by decide)
  have f8 : (L.setIfInBounds 9 true).getD 8 false = L.getD 8 false := flag_ne (by decide)
  have f9 : (L.setIfInBounds 9 true).getD 9 false = true := flag_self hLs (by decide)
  have f10 : (L.setIfInBounds 9 true).getD 10 false = L.getD 10 false := flag_ne (by decide)
  have f11 : (L.setIfInBounds 9 true).getD 11 false = L.getD 11 false := flag_ne (by decide)
  refine ⟨_, _, _, _, _, _, _, _, _, _, _, _, y0, y1, y2, rfl, ?_, ?_, ?_, d0, d1, hB, by simpa using hLs⟩
  · rw [f0, f1, f2, f3]; exact p0
  · rw [f4, f5, f6, f7]; exact p1
  · rw [f8, f9, f10, f11]; exact ⟨p2.l, fun _ => rfl, p2.b, p2.r0, p2.r1⟩
theorem inv3_build2 (hLs : L.size = 15) (hB0 : b0 + 3 ≤ w'.heap.size) (p0 : PS w' (b0 + 3) n 114 vo ps (.pointer (some a)) [y0, y1, y2] (L.getD 0 false) (L.getD 1 false) (L.getD 2 false) (L.getD 3 false) s9 s10 s11 s12 y0) (p1 : PS w' (b0 + 3) n 2 vl ls (.int .i64 lo) [y0, y1, y2] (L.getD 4 false) (L.getD 5 false) (L.getD 6 false) (L.getD 7 false) s13 s14 s15 s16 y1) (p2 : PS w' (b0 + 3) n 2 vg gs (.int .i64 hj) [y0, y1, y2] (L.getD 8 false) (L.getD 9 false) (L.getD 10 false) (L.getD 11 false) s17 s18 s19 s20 y2) (d0 : ∀ x, y0.ownBlock = some x → y1.ownBlock ≠ some x ∧ y2.ownBlock ≠ some x) (d1 : ∀ x, y1.ownBlock = some x → y2.ownBlock ≠ some x) (hB : Below (b0 + 3) w w') : Inv3 w b0 n a lo hj vo vl vg ps ls gs (L.setIfInBounds 10 true) ⟨#[.pointer (some a), .int .i64 lo, .int .i64 hj, .pointer (some ⟨b0, 0, none⟩), .pointer (some ⟨b0 + 1, 0, none⟩), .pointer (some ⟨b0 + 2, 0, none⟩), undef, undef, undef, s9, s10, s11, s12, s13, s14, s15, s16, s17, s18, .slice (some ⟨w'.heap.size, 0, none⟩) 1 1, s20], []⟩ (w'.alloc (.cells #[.int .i64 hj] 2)) := by
  have f0 : (L.setIfInBounds 10 true).getD 0 false = L.getD 0 false := flag_ne (by decide)
  have f1 : (L.setIfInBounds 10 true).getD 1 false = L.getD 1 false := flag_ne (by decide)
  have f2 : (L.setIfInBounds 10 true).getD 2 false = L.getD 2 false := flag_ne (by decide)
  have f3 : (L.setIfInBounds 10 true).getD 3 false = L.getD 3 false := flag_ne (by decide)
  have f4 : (L.setIfInBounds 10 true).getD 4 false = L.getD 4 false := flag_ne (by decide)
  have f5 : (L.setIfInBounds 10 true).getD 5 false = L.getD 5 false := flag_ne (by decide)
  have f6 : (L.setIfInBounds 10 true).getD 6 false = L.getD 6 false := flag_ne (by decide)
  have f7 : (L.setIfInBounds 10 true).getD 7 false = L.getD 7 false := flag_ne (by decide)
  have f8 : (L.setIfInBounds 10 true).getD 8 false = L.getD 8 false := flag_ne (by decide)
  have f9 : (L.setIfInBounds 10 true).getD 9 false = L.getD 9 false := flag_ne (by decide)
  have f10 : (L.setIfInBounds 10 true).getD 10 false = true := flag_self hLs (by decide)
  have f11 : (L.setIfInBounds 10 true).getD 11 false = L.getD 11 false := flag_ne (by decide)
  have hsz : (w'.alloc (.cells #[.int .i64 hj] 2)).heap.size = w'.heap.size + 1 := by simp
  have hk : ∀ j, j < w'.heap.size → (w'.alloc (.cells #[.int .i64 hj] 2)).heap[j]? = w'.heap[j]? := fun j hj2 => Below.heap_alloc _ _ _ hj2
  have hcell : (w'.alloc (.cells #[.int .i64 hj] 2)).cell? ⟨w'.heap.size, 0, none⟩ = some (.int .i64 hj) := by simp [go_sem]
  have hcu : ∀ y ∈ [y0, y1, y2], (∃ z ∈ [y0, y1, y2], y.ownBlock = z.ownBlock) ∨ ∀ g, y.ownBlock = some g → w'.heap.size ≤ g := fun y hy => .inl ⟨y, hy, rfl⟩
  have q0 := p0.keep (curs' := [y0, y1, y2]) none (w' := w'.alloc (.cells #[.int .i64 hj] 2)) (by omega) (fun j hj2 _ => hk j hj2) (fun g e => by cases e) (fun g e => by cases e) hcu
  have q1 := p1.keep (curs' := [y0, y1, y2]) none (w' := w'.alloc (.cells #[.int .i64 hj] 2)) (by omega) (fun j hj2 _ => hk j hj2) (fun g e => by cases e) (fun g e => by cases e) hcu
  have q2 := p2.keep (curs' := [y0, y1, y2]) none (w' := w'.alloc (.cells #[.int .i64 hj] 2)) (by omega) (fun j hj2 _ => hk j hj2) (fun g e => by cases e) (fun g e => by cases e) hcu
  have hlt : ∀ y ∈ [y0, y1, y2], y.ownBlock ≠ some w'.heap.size := by
    intro y hy e
    obtain ⟨k0, z0, r0⟩ := p0.owns
    obtain ⟨k1, z1, r1⟩ := p1.owns
    obtain ⟨k2, z2, r2⟩ := p2.owns
    simp only [List.mem_cons, List.not_mem_nil, or_false] at hy
    rcases hy with rfl | rfl | rfl
    · exact absurd (World.ownsRow.lt r0 _ e).2 (Nat.lt_irrefl _)
    · exact absurd (World.ownsRow.lt r1 _ e).2 (Nat.lt_irrefl _)
    · exact absurd (World.ownsRow.lt r2 _ e).2 (Nat.lt_irrefl _)
  refine ⟨_, _, _, _, _, _, _, _, _, _, _, _, y0, y1, y2, rfl, ?_, ?_, ?_, d0, d1, hB.trans ⟨rfl, rfl, rfl, by omega, fun j hj2 => hk j (by have := hB0; omega)⟩, by simpa using hLs⟩
  · rw [f0, f1, f2, f3]; exact q0
  · rw [f4, f5, f6, f7]; exact q1
  · rw [f8, f9, f10, f11]; exact ⟨q2.l, q2.m, fun _ => ⟨_, rfl, hcell, by omega, hlt⟩, q2.r0, q2.r1⟩
theorem inv3_app2 (hLs : L.size = 15) (p0 : PS w' (b0 + 3) n 114 vo ps (.pointer (some a)) [y0, y1, y2] (L.getD 0 false) (L.getD 1 false) (L.getD 2 false) (L.getD 3 false) s9 s10 s11 s12 y0) (p1 : PS w' (b0 + 3) n 2 vl ls (.int .i64 lo) [y0, y1, y2] (L.getD 4 false) (L.getD 5 false) (L.getD 6 false) (L.getD 7 false) s13 s14 s15 s16 y1) (p2 : PS w' (b0 + 3) n 2 vg gs (.int .i64 hj) [y0, y1, y2] (L.getD 8 false) (L.getD 9 false) (L.getD 10 false) (L.getD 11 false) s17 s18 s19 s20 y2) (d0 : ∀ x, y0.ownBlock = some x → y1.ownBlock ≠ some x ∧ y2.ownBlock ≠ some x) (d1 : ∀ x, y1.ownBlock = some x → y2.ownBlock ≠ some x) (hB : Below (b0 + 3) w w') {w2 : World} {V : Value} {g : Nat} (hg : V.ownBlock = some g) (hrow : w2.ownsRow (b0 + 3) 2 1 V (n + 1) (gs ++ [.int .i64 hj])) (hgr : w'.grownBy w2 vg.ownBlock) (hat : vg.ownBlock = some g ∨ g = w'.heap.size) (hap : L.getD 11 false = false) (hB0 : b0 + 3 ≤ w'.heap.size) : Inv3 w b0 n a lo hj vo vl vg ps ls gs (L.setIfInBounds 11 true) ⟨#[.pointer (some a), .int .i64 lo, .int .i64 hj, .pointer (some ⟨b0, 0, none⟩), .pointer (some ⟨b0 + 1, 0, none⟩), .pointer (some ⟨b0 + 2, 0, none⟩), undef, undef, undef, s9, s10, s11, s12, s13, s14, s15, s16, s17, s18, s19, V], []⟩ w2 := by
  have f0 : (L.setIfInBounds 11 true).getD 0 false = L.getD 0 false := flag_ne (by decide)
  have f1 : (L.setIfInBounds 11 true).getD 1 false = L.getD 1 false := flag_ne (by decide)
  have f2 : (L.setIfInBounds 11 true).getD 2 false = L.getD 2 false := flag_ne (by decide)
  have f3 : (L.setIfInBounds 11 true).getD 3 false = L.getD 3 false := flag_ne (by decide)
  have f4 : (L.setIfInBounds 11 true).getD 4 false = L.getD 4 false := flag_ne (by decide)
  have f5 : (L.setIfInBounds 11 true).getD 5 false = L.getD 5 false := flag_ne (by decide)
  have f6 : (L.setIfInBounds 11 true).getD 6 false = L.getD 6 false := flag_ne (by decide)
  have f7 : (L.setIfInBounds 11 true).getD 7 false = L.getD 7 false := flag_ne (by decide)
  have f8 : (L.setIfInBounds 11 true).getD 8 false = L.getD 8 false := flag_ne (by decide)
  have f9 : (L.setIfInBounds 11 true).getD 9 false = L.getD 9 false := flag_ne (by decide)
  have f10 : (L.setIfInBounds 11 true).getD 10 false = L.getD 10 false := flag_ne (by decide)
  have f11 : (L.setIfInBounds 11 true).getD 11 false = true := flag_self hLs (by decide)
  obtain ⟨rfl, rold⟩ := p2.r0 hap
  obtain ⟨k0, z0, r0⟩ := p0.owns
  obtain ⟨k1, z1, r1⟩ := p1.owns
  obtain ⟨k2, z2, r2⟩ := p2.owns
  have l0 := World.ownsRow.lt r0
  have l1 := World.ownsRow.lt r1
  have l2 := World.ownsRow.lt r2
  have hcu : ∀ y ∈ [y0, y1, V], (∃ z ∈ [y0, y1, y2], y.ownBlock = z.ownBlock) ∨ ∀ g, y.ownBlock = some g → w'.heap.size ≤ g := by
    intro y hy
    simp only [List.mem_cons, List.not_mem_nil, or_false] at hy
    rcases hy with rfl | rfl | rfl
    · exact .inl ⟨_, by simp, rfl⟩
    · exact .inl ⟨_, by simp, rfl⟩
    · rcases hat with h | h
      · exact .inl ⟨y2, by simp, by rw [hg, h]⟩
      · exact .inr fun g2 e => by rw [hg] at e; injection e with e; omega
  have hk : ∀ j, j < w'.heap.size → y2.ownBlock ≠ some j → w2.heap[j]? = w'.heap[j]? := fun j hj2 hne => hgr.block j hj2 (fun e => hne e.symm)
  have q0 := p0.keep (curs' := [y0, y1, V]) (w' := w2) y2.ownBlock hgr.size hk (fun g e e2 => (d0 g e2).2 e) (fun g e => ⟨y2, by simp, e⟩) hcu
  have q1 := p1.keep (curs' := [y0, y1, V]) (w' := w2) y2.ownBlock hgr.size hk (fun g e e2 => (d1 g e2) e) (fun g e => ⟨y2, by simp, e⟩) hcu
  refine ⟨_, _, _, _, _, _, _, _, _, _, _, _, y0, y1, V, rfl, ?_, ?_, ?_, ?_, ?_, hB.trans (grown_low hgr hB0 fun g e => (World.ownsRow.lt rold g e).1), by simpa using hLs⟩
  · rw [f0, f1, f2, f3]; exact q0
  · rw [f4, f5, f6, f7]; exact q1
  · rw [f8, f9, f10, f11]
    refine ⟨p2.l, p2.m, fun hb => ?_, fun e => (by cases e), fun _ => ⟨rfl, hrow⟩⟩
    obtain ⟨g2, h1, h2, h3, h4⟩ := p2.b hb
    refine ⟨g2, h1, ?_, Nat.lt_of_lt_of_le h3 hgr.size, fun y hy => ?_⟩
    · rw [← h2]
      exact World.cell?_of_block (hk g2 h3 (h4 _ (by simp)))
    · rcases hcu y hy with ⟨z, hz1, hz2⟩ | h5
      · rw [hz2]; exact h4 z hz1
      · intro e; have := h5 g2 e; omega
  · intro x hx
    refine ⟨(d0 x hx).1, fun e => ?_⟩
    rw [hg] at e
    injection e with e
    subst e
    rcases hat with h | h
    · exact (d0 g hx).2 h
    · have := (l0 g hx).2; omega
  · intro x hx e
    rw [hg] at e
    injection e with e
    subst e
    rcases hat with h | h
    · exact d1 g hx h
    · have := (l1 g hx).2; omega
end
end Go.Proofs.YtfpgbhimgfdddaaGreatDoor

/- The walks of layer 20 (store): a manifest's numbers, one by one. -/
namespace Go.Proofs.YtfpgbhimgfdddaaGreatDoor
open Go.RowKit Go.Shelf Go.Sort
attribute [local go_sem ↓] Go.wp_at_zero Go.wp_at_succ
attribute [local go_sem] Later.cell Later.frozen

theorem own_shape {w : World} {B n : Nat} {T : TypeId} {v : Value} {xs : List Value} (h : w.ownsRow B T 1 v (n + 1) xs) : ∃ g c, v = .slice (some ⟨g, 0, none⟩) (n + 1) c := by
  rcases h.2 with ⟨h1, h2⟩ | ⟨g, cap, cur, h1, _⟩
  · exact absurd h2 (by omega)
  · exact ⟨g, cap, h1⟩
theorem Blk.low {w w' : World} {g B : Nat} {T : TypeId} {cs : Array Value} (h : Blk w g T cs) (hb : Below B w w') (hg : g < B) : Blk w' g T cs := (hb.block g hg).trans h
theorem Below.low {w w' : World} {A B : Nat} (h : Below B w w') (hA : A ≤ B) : Below A w w' := ⟨h.os, h.tape, h.output, h.size, fun k hk => h.block k (by omega)⟩
set_option maxRecDepth 100000 in
set_option maxHeartbeats 4000000 in
theorem one_calls (b0 n : Nat) (a : Addr) (lo hj : Int) (ps ls gs : List Value) (w : World) (h : Num3 w b0 n ps ls gs) (hn : n ≤ 100) :
    Calls Tryz.prog 100 #[.pointer (some a), .int .i64 lo, .int .i64 hj, .pointer (some ⟨b0, 0, none⟩), .pointer (some ⟨b0 + 1, 0, none⟩), .pointer (some ⟨b0 + 2, 0, none⟩)] w fun e w' =>
      e = .returned (.tuple #[]) ∧ Num3 w' b0 (n + 1) (ps ++ [.pointer (some a)]) (ls ++ [.int .i64 lo]) (gs ++ [.int .i64 hj]) ∧ Below b0 w w' := by
  obtain ⟨ip, hip, hp0, hp1, hp2⟩ := info_parts info_p64
  obtain ⟨ii, hii, hi0, hi1, hi2⟩ := info_parts info_i64
  obtain ⟨vo, vl, vg, k0, k1, k2, ho, hl, hg, hd, hd2⟩ := h.ex
  have c0 : w.cell? ⟨b0, 0, none⟩ = some vo := k0.cell 0
  have c1 : w.cell? ⟨b0 + 1, 0, none⟩ = some vl := k1.cell 0
  have c2 : w.cell? ⟨b0 + 2, 0, none⟩ = some vg := k2.cell 0
  have hsz := k2.lt
  have o1 : ∀ u ∈ [Value.pointer (some a)], u.oneCell' = true := by simp [Value.oneCell']
  have o2 : ∀ u ∈ [Value.int .i64 lo], u.oneCell' = true := by simp [Value.oneCell']
  have o3 : ∀ u ∈ [Value.int .i64 hj], u.oneCell' = true := by simp [Value.oneCell']
  have HK := Lib.hid (⟨k0, k1, k2⟩ : Blk w b0 111 #[vo] ∧ Blk w (b0 + 1) 107 #[vl] ∧ Blk w (b0 + 2) 107 #[vg])
  have H0 : Inv3 w b0 n a lo hj vo vl vg ps ls gs (Array.replicate 15 false) ⟨#[.pointer (some a), .int .i64 lo, .int .i64 hj, .pointer (some ⟨b0, 0, none⟩), .pointer (some ⟨b0 + 1, 0, none⟩), .pointer (some ⟨b0 + 2, 0, none⟩), undef, undef, undef, undef, undef, undef, undef, undef, undef, undef, undef, undef, undef, undef, undef], []⟩ w.drew :=
    ⟨_, _, _, _, _, _, _, _, _, _, _, _, vo, vl, vg, rfl, ⟨fun e => absurd e (by decide), fun e => absurd e (by decide), fun e => absurd e (by decide), fun _ => ⟨rfl, ho⟩, fun e => absurd e (by decide)⟩, ⟨fun e => absurd e (by decide), fun e => absurd e (by decide), fun e => absurd e (by decide), fun _ => ⟨rfl, hl⟩, fun e => absurd e (by decide)⟩, ⟨fun e => absurd e (by decide), fun e => absurd e (by decide), fun e => absurd e (by decide), fun _ => ⟨rfl, hg⟩, fun e => absurd e (by decide)⟩, hd, hd2, (Below.refl _ _).drew, rfl⟩
  clear ho hl hg hd hd2 k0 k1 k2 h
  go_enter Tryz.func100, Tryz.ntmps100
  refine wp_region_inv_tail (l := _) 12 (by kernel_rfl) (by kernel_rfl) (by kernel_rfl) (by kernel_rfl) (by decide) (by kernel_rfl) (Inv3 w b0 n a lo hj vo vl vg ps ls gs) ?h0 ?hs ?he
  case h0 => exact H0
  case he =>
    clear H0
    rintro L a' w' ⟨s9, s10, s11, s12, s13, s14, s15, s16, s17, s18, s19, s20, y0, y1, y2, rfl, p0, p1, p2, d0, d1, hB, hLs⟩ hall
    obtain ⟨rfl, r0⟩ := p0.r1 (hall 3 (by decide))
    obtain ⟨rfl, r1⟩ := p1.r1 (hall 7 (by decide))
    obtain ⟨rfl, r2⟩ := p2.r1 (hall 11 (by decide))
    simp only [List.drop_succ_cons, List.drop_zero]
    have k0 := Blk.low HK.out.1 hB (by omega)
    have k1 := Blk.low HK.out.2.1 hB (by omega)
    have k2 := Blk.low HK.out.2.2 hB (by omega)
    have m0 := k0.cell 0
    have m1 := k1.cell 0
    have m2 := k2.cell 0
    have z0 := k0.frozen 0
    have z1 := k1.frozen 0
    have z2 := k2.frozen 0
    have hfin : Num3 (((w'.setCell ⟨b0, 0, none⟩ s12).setCell ⟨b0 + 1, 0, none⟩ s16).setCell ⟨b0 + 2, 0, none⟩ s20) b0 (n + 1) (ps ++ [.pointer (some a)]) (ls ++ [.int .i64 lo]) (gs ++ [.int .i64 hj]) := by
      have hsame : ∀ g, b0 + 3 ≤ g → (((w'.setCell ⟨b0, 0, none⟩ s12).setCell ⟨b0 + 1, 0, none⟩ s16).setCell ⟨b0 + 2, 0, none⟩ s20).heap[g]? = w'.heap[g]? := fun g hg =>
        ((Below.heap_setCell _ _ _ g (by show g ≠ b0 + 2; omega)).trans (Below.heap_setCell _ _ _ g (by show g ≠ b0 + 1; omega))).trans (Below.heap_setCell _ _ _ g (by show g ≠ b0; omega))
      refine ⟨s12, s16, s20, ?_, ?_, ?_, ownsRow.same r0 fun g hg => hsame g (World.ownsRow.lt r0 g hg).1, ownsRow.same r1 fun g hg => hsame g (World.ownsRow.lt r1 g hg).1, ownsRow.same r2 fun g hg => hsame g (World.ownsRow.lt r2 g hg).1, d0, d1⟩
      · exact ((k0.set_ 0 s12).far (p := ⟨b0 + 1, 0, none⟩) (by show b0 ≠ b0 + 1; omega) _).far (p := ⟨b0 + 2, 0, none⟩) (by show b0 ≠ b0 + 2; omega) _
      · exact ((k1.far (p := ⟨b0, 0, none⟩) (by show b0 + 1 ≠ b0; omega) _).set_ 0 s16).far (p := ⟨b0 + 2, 0, none⟩) (by show b0 + 1 ≠ b0 + 2; omega) _
      · exact ((k2.far (p := ⟨b0, 0, none⟩) (by show b0 + 2 ≠ b0; omega) _).far (p := ⟨b0 + 1, 0, none⟩) (by show b0 + 2 ≠ b0 + 1; omega) _).set_ 0 s20
    have hlow : Below b0 w (((w'.setCell ⟨b0, 0, none⟩ s12).setCell ⟨b0 + 1, 0, none⟩ s16).setCell ⟨b0 + 2, 0, none⟩ s20) := by
      refine (Below.low hB (by omega)).trans ⟨rfl, rfl, rfl, by simp [World.setCell], fun g hg => ?_⟩
      exact ((Below.heap_setCell _ _ _ g (by show g ≠ b0 + 2; omega)).trans (Below.heap_setCell _ _ _ g (by show g ≠ b0 + 1; omega))).trans (Below.heap_setCell _ _ _ g (by show g ≠ b0; omega))
    have HF := Lib.hid hfin
    have HL := Lib.hid hlow
    obtain ⟨g0, e0, h0⟩ := own_shape r0
    obtain ⟨g1, e1, h1⟩ := own_shape r1
    obtain ⟨g2, e2, h2⟩ := own_shape r2
    subst h0 h1 h2
    clear hfin hlow k0 k1 k2 r0 r1 r2 p0 p1 p2 d0 d1 hall
    go_wp2_with fail
    go_end0
    exact ⟨rfl, HF.out, HL.out⟩
  case hs =>
    clear H0
    rintro L a' w' i o hi ⟨s9, s10, s11, s12, s13, s14, s15, s16, s17, s18, s19, s20, y0, y1, y2, rfl, p0, p1, p2, d0, d1, hB, hLs⟩ ho hL haft
    have c0' : w'.cell? ⟨b0, 0, none⟩ = some vo := (hB.cell (p := ⟨b0, 0, none⟩) (by show b0 < _; omega)).trans c0
    have c1' : w'.cell? ⟨b0 + 1, 0, none⟩ = some vl := (hB.cell (p := ⟨b0 + 1, 0, none⟩) (by show b0 + 1 < _; omega)).trans c1
    have c2' : w'.cell? ⟨b0 + 2, 0, none⟩ = some vg := (hB.cell (p := ⟨b0 + 2, 0, none⟩) (by show b0 + 2 < _; omega)).trans c2
    have hB0 : b0 + 3 ≤ w'.heap.size := by have := hB.size; omega
    match i, ho with
    | 0, ho =>
      have ho := (Option.some.inj ho).symm
      subst ho
      have G := Lib.hid (inv3_load0 hLs p0 p1 p2 d0 d1 hB)
      clear p0 p1 p2 d0 d1 haft
      unfold Oper.wp
      go_simp
      exact G.out
    | 1, ho =>
      have ho := (Option.some.inj ho).symm
      subst ho
      have G := Lib.hid (inv3_move0 hLs p0 p1 p2 d0 d1 hB)
      clear p0 p1 p2 d0 d1 haft
      unfold Oper.wp
      go_simp
      exact G.out
    | 2, ho =>
      have ho := (Option.some.inj ho).symm
      subst ho
      have G := Lib.hid (inv3_build0 hLs hB0 p0 p1 p2 d0 d1 hB)
      have hs := p0.m (haft ⟨1, .data⟩ (by simp) rfl)
      subst hs
      clear p0 p1 p2 d0 d1 haft
      unfold Oper.wp
      go_simp
      exact G.out
    | 3, ho =>
      have ho := (Option.some.inj ho).symm
      subst ho
      obtain rfl := p0.l (haft ⟨0, .data⟩ (by simp) rfl)
      obtain ⟨g, rfl, hgc, hgl, _⟩ := p0.b (haft ⟨2, .data⟩ (by simp) rfl)
      have hap := getD_both hL
      have hrow := (p0.r0 hap).2
      refine wp_append_lies w' _ _ _ rfl (b0 + 3) 114 ip (.pointer none) 1 8 Tryz.underlying111 hip hp0 hp1 hp2 rfl (by omega) _ n ps rfl hrow ⟨g, 0, none⟩ 1 1 [.pointer (some a)] rfl rfl ?_ o1 (by omega) (by simp only [maxLen]; omega) (by omega) hB0 w'.heap.size rfl ?_
      · intro j u hj
        match j, hj with
        | 0, hj =>
          injection hj with hj
          subst hj
          exact hgc
        | j + 1, hj => simp at hj
      · intro g2 cap w2 hown hgr hat hlt
        exact inv3_app0 hLs p0 p1 p2 d0 d1 hB rfl hown hgr hat hap hB0
    | 4, ho =>
      have ho := (Option.some.inj ho).symm
      subst ho
      have G := Lib.hid (inv3_load1 hLs p0 p1 p2 d0 d1 hB)
      clear p0 p1 p2 d0 d1 haft
      unfold Oper.wp
      go_simp
      exact G.out
    | 5, ho =>
      have ho := (Option.some.inj ho).symm
      subst ho
      have G := Lib.hid (inv3_move1 hLs p0 p1 p2 d0 d1 hB)
      clear p0 p1 p2 d0 d1 haft
      unfold Oper.wp
      go_simp
      exact G.out
    | 6, ho =>
      have ho := (Option.some.inj ho).symm
      subst ho
      have G := Lib.hid (inv3_build1 hLs hB0 p0 p1 p2 d0 d1 hB)
      have hs := p1.m (haft ⟨5, .data⟩ (by simp) rfl)
      subst hs
      clear p0 p1 p2 d0 d1 haft
      unfold Oper.wp
      go_simp
      exact G.out
    | 7, ho =>
      have ho := (Option.some.inj ho).symm
      subst ho
      obtain rfl := p1.l (haft ⟨4, .data⟩ (by simp) rfl)
      obtain ⟨g, rfl, hgc, hgl, _⟩ := p1.b (haft ⟨6, .data⟩ (by simp) rfl)
      have hap := getD_both hL
      have hrow := (p1.r0 hap).2
      refine wp_append_lies w' _ _ _ rfl (b0 + 3) 2 ii (.int .i64 0) 1 8 Tryz.underlying107 hii hi0 hi1 hi2 rfl (by omega) _ n ls rfl hrow ⟨g, 0, none⟩ 1 1 [.int .i64 lo] rfl rfl ?_ o2 (by omega) (by simp only [maxLen]; omega) (by omega) hB0 w'.heap.size rfl ?_
      · intro j u hj
        match j, hj with
        | 0, hj =>
          injection hj with hj
          subst hj
          exact hgc
        | j + 1, hj => simp at hj
      · intro g2 cap w2 hown hgr hat hlt
        exact inv3_app1 hLs p0 p1 p2 d0 d1 hB rfl hown hgr hat hap hB0
    | 8, ho =>
      have ho := (Option.some.inj ho).symm
      subst ho
      have G := Lib.hid (inv3_load2 hLs p0 p1 p2 d0 d1 hB)
      clear p0 p1 p2 d0 d1 haft
      unfold Oper.wp
      go_simp
      exact G.out
    | 9, ho =>
      have ho := (Option.some.inj ho).symm
      subst ho
      have G := Lib.hid (inv3_move2 hLs p0 p1 p2 d0 d1 hB)
      clear p0 p1 p2 d0 d1 haft
      unfold Oper.wp
      go_simp
      exact G.out
    | 10, ho =>
      have ho := (Option.some.inj ho).symm
      subst ho
      have G := Lib.hid (inv3_build2 hLs hB0 p0 p1 p2 d0 d1 hB)
      have hs := p2.m (haft ⟨9, .data⟩ (by simp) rfl)
      subst hs
      clear p0 p1 p2 d0 d1 haft
      unfold Oper.wp
      go_simp
      exact G.out
    | 11, ho =>
      have ho := (Option.some.inj ho).symm
      subst ho
      obtain rfl := p2.l (haft ⟨8, .data⟩ (by simp) rfl)
      obtain ⟨g, rfl, hgc, hgl, _⟩ := p2.b (haft ⟨10, .data⟩ (by simp) rfl)
      have hap := getD_both hL
      have hrow := (p2.r0 hap).2
      refine wp_append_lies w' _ _ _ rfl (b0 + 3) 2 ii (.int .i64 0) 1 8 Tryz.underlying107 hii hi0 hi1 hi2 rfl (by omega) _ n gs rfl hrow ⟨g, 0, none⟩ 1 1 [.int .i64 hj] rfl rfl ?_ o3 (by omega) (by simp only [maxLen]; omega) (by omega) hB0 w'.heap.size rfl ?_
      · intro j u hj
        match j, hj with
        | 0, hj =>
          injection hj with hj
          subst hj
          exact hgc
        | j + 1, hj => simp at hj
      · intro g2 cap w2 hown hgr hat hlt
        exact inv3_app2 hLs p0 p1 p2 d0 d1 hB rfl hown hgr hat hap hB0
    | i + 12, ho => exact absurd hi (by omega)
end Go.Proofs.YtfpgbhimgfdddaaGreatDoor
