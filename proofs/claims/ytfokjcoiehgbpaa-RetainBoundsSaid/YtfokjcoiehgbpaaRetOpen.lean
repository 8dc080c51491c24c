/- Opening the arguments of the retain statements: a policy, a manifest. -/
import Derived.Test.YtfokjcoiehgbpaaRows
import Derived.Test.YtfokjcoiehgbpaaRetLawB
import Derived.ProofKit
import Derived.SizedLaws
import Derived.OpenShut
import Derived.Deep.Slices
namespace Go.Proofs.Ytfokjcoiehgbpaa
open Go.ChangeShapes Go.WideShapes Go.ChangeAt Go.RowKit Go.Deep

theorem Try.own : ownKnob Try.prog.godebug = none := by kernel_rfl
theorem Try.laidOut : laidOutB Try.prog = true := by kernel_rfl
theorem cells_arr : Try.prog.cellsOf 22 = 3 := by kernel_rfl
theorem cells_i64 : Try.prog.cellsOf 2 = 1 := by kernel_rfl
theorem cells_int : Try.prog.cellsOf 3 = 1 := by kernel_rfl
theorem cells_sl : Try.prog.cellsOf 25 = 1 := by kernel_rfl
theorem cells_pol : Try.prog.cellsOf 24 = 4 := by kernel_rfl
theorem cells_man : Try.prog.cellsOf 27 = 13 := by kernel_rfl
theorem cells_info : Try.prog.cellsOf 39 = 5 := by kernel_rfl
theorem bytes_info : Try.prog.bytesOf 39 = 40 := by kernel_rfl

theorem wf_lo {n : Int} (h : (Lit.int .i64 n).wf = true) : -9223372036854775808 ≤ n ∧ n ≤ 9223372036854775807 := by
  have h1 : IntKind.i64.min = -9223372036854775808 := rfl
  have h2 : IntKind.i64.max = 9223372036854775807 := rfl
  simp only [Lit.wf, Bool.and_eq_true, decide_eq_true_eq] at h
  omega

section
variable {H : Type} {enc : TypeId × Value → H} {w : World} {base : Nat} {spare : Nat → Bool} {held : Bool}

theorem open_arr3 {fuel : Nat} {c0 c1 c2 : Value} {x : DataW H × List MemPlace} (h : DataW.trod enc Try.prog w base spare held fuel 22 [c0, c1, c2] = some x) :
    ∃ a b c : Int, c0 = .int .i64 a ∧ c1 = .int .i64 b ∧ c2 = .int .i64 c ∧ (Lit.int .i64 a).wf = true ∧ (Lit.int .i64 b).wf = true ∧ (Lit.int .i64 c).wf = true := by
  obtain ⟨xs, m, _, _, _, hl, hg⟩ := DataW.trod_array Try.underlying22 h
  rw [cells_i64] at hg
  match xs, hl with
  | [x0, x1, x2], _ =>
    have g0 := hg 0 (by omega)
    have g1 := hg 1 (by omega)
    have g2 := hg 2 (by omega)
    simp at g0 g1 g2
    obtain ⟨a, e0, _, wa⟩ := DataW.trod_int Try.underlying2 g0
    obtain ⟨b, e1, _, wb⟩ := DataW.trod_int Try.underlying2 g1
    obtain ⟨c, e2, _, wc⟩ := DataW.trod_int Try.underlying2 g2
    simp at e0 e1 e2
    exact ⟨a, b, c, e0, e1, e2, wa, wb, wc⟩

theorem open_pol {r : Reach} {b0 : Nat} {v : Value} {d : DataW H} {ps : List MemPlace} (hv : Value.okWide Try.prog w r b0 24 v) (h : DataW.Trod enc Try.prog w base spare held 24 v d ps) :
    ∃ p : Pol, v = p.val ∧ (Lit.int .i64 p.k0).wf = true ∧ (Lit.int .i64 p.k1).wf = true ∧ (Lit.int .i64 p.k2).wf = true ∧ (Lit.int .i64 p.size).wf = true := by
  obtain ⟨cs, rfl, hsz⟩ := okWide_struct Try.underlying24 hv
  obtain ⟨l⟩ := cs
  match l, hsz.trans cells_pol with
  | [c0, c1, c2, c3], _ =>
    obtain ⟨fuel, hf⟩ := h
    obtain ⟨xs, n, _, _, _, hlen, hg⟩ := DataW.trod_struct Try.underlying24 hf
    match xs, hlen with
    | [x0, x1], _ =>
      have g0 := hg 0 _ rfl
      have g1 := hg 1 _ rfl
      simp [Value.cells, cells_arr, cells_int] at g0 g1
      obtain ⟨a, b, c, rfl, rfl, rfl, wa, wb, wc⟩ := open_arr3 g0
      obtain ⟨s, e, _, ws⟩ := DataW.trod_int Try.underlying3 g1
      simp at e
      subst e
      exact ⟨⟨a, b, c, s⟩, rfl, wa, wb, wc, ws⟩

theorem open_info {fuel : Nat} {l : List Value} {x : DataW H × List MemPlace} (h : DataW.trod enc Try.prog w base spare held fuel 39 l = some x) : ∃ y : Info, l = y.enc := by
  obtain ⟨xs, n, _, _, hcl, hlen, hg⟩ := DataW.trod_struct Try.underlying39 h
  rw [cells_info] at hcl
  match l, hcl, xs, hlen with
  | [c0, c1, c2, c3, c4], _, [x0, x1, x2, x3, x4], _ =>
    have g0 := hg 0 _ rfl
    have g1 := hg 1 _ rfl
    have g2 := hg 2 _ rfl
    have g3 := hg 3 _ rfl
    have g4 := hg 4 _ rfl
    simp [cells_int, cells_i64] at g0 g1 g2 g3 g4
    obtain ⟨a, e0, _, _⟩ := DataW.trod_int Try.underlying3 g0
    obtain ⟨b, e1, _, _⟩ := DataW.trod_int Try.underlying3 g1
    obtain ⟨c, e2, _, _⟩ := DataW.trod_int Try.underlying2 g2
    obtain ⟨d, e3, _, _⟩ := DataW.trod_int Try.underlying2 g3
    obtain ⟨e, e4, _, _⟩ := DataW.trod_int Try.underlying3 g4
    simp at e0 e1 e2 e3 e4
    subst e0 e1 e2 e3 e4
    exact ⟨⟨a, b, c, d, e⟩, rfl⟩

theorem open_infos {fuel : Nat} {v : Value} {x : DataW H × List MemPlace} (h : DataW.trod enc Try.prog w base spare held fuel 25 [v] = some x) :
    ∃ A n c xs, v = .slice A n c ∧ (A = none → c = 0) ∧ Elems w w.heap.size 5 Info.enc A n xs ∧ ((n = 0) ∨ ∃ el sp, x.1 = .slice el sp ∧ el.length = n) := by
  rcases open_slice Try.underlying25 h with ⟨hcs, _⟩ | ⟨a, len, cap, m, n, D, Pl, hcs, _, hl, _, hmm, hx, hi⟩
  · simp at hcs
    subst hcs
    exact ⟨none, 0, 0, [], rfl, fun _ => rfl, Elems.nil_, .inl rfl⟩
  · simp at hcs
    subst hcs
    rw [cells_info] at hi
    have hlm : len ≤ m := by rw [hmm]; split <;> omega
    have key : ∀ i, i < len → ∃ y : Info, ∀ j u, y.enc[j]? = some u → w.cell? (a.add (i * 5 + j)) = some u := by
      intro i hlt
      obtain ⟨cs', hc, ht⟩ := hi i (by omega)
      obtain ⟨y, rfl⟩ := open_info ht
      obtain ⟨_, hcl, hat⟩ := World.cells?_some hc
      refine ⟨y, fun j u hu => ?_⟩
      have hj : j < 5 := by have := (List.getElem?_eq_some_iff.1 hu).1; simpa [Info.enc] using this
      have := hat j hj
      rw [Go.Deep.add_add] at this
      rw [this, hu]
    obtain ⟨f, hf⟩ : ∃ f : Nat → Info, ∀ i, i < len → ∀ j u, (f i).enc[j]? = some u → w.cell? (a.add (i * 5 + j)) = some u :=
      ⟨fun i => if hlt : i < len then Classical.choose (key i hlt) else Info.zero, fun i hlt => by
        dsimp only
        rw [dif_pos hlt]
        exact Classical.choose_spec (key i hlt)⟩
    refine ⟨some a, len, cap, (List.range len).map f, rfl, (fun h => by cases h), ⟨by simp, fun h0 => ?_⟩, .inr ⟨_, _, by rw [hx], by simp⟩⟩
    obtain ⟨b, off, spot⟩ := a
    have h00 := hf 0 h0 0 _ rfl
    have hspot : spot = none := by simpa [Addr.add] using World.cell?_spot h00
    subst hspot
    refine ⟨b, off, rfl, by simpa [Addr.add] using lt_of_cell h00, fun i x hx j u hu => ?_⟩
    have hil : i < len := by have := (List.getElem?_eq_some_iff.1 hx).1; simpa using this
    have hxe : f i = x := by simpa [hil] using hx
    subst hxe
    have := hf i hil j u hu
    rw [add_plain] at this
    rw [← this, Nat.add_assoc]

theorem open_man {r : Reach} {b0 : Nat} {v : Value} {d : DataW H} {ps : List MemPlace} (hv : Value.okWide Try.prog w r b0 27 v) (h : DataW.Trod enc Try.prog w base spare held 27 v d ps) :
    ∃ (M : Man) (A : Option Addr) (n c : Nat) (xs : List Info), v = M.val (.slice A n c) ∧ (A = none → c = 0) ∧ Elems w w.heap.size 5 Info.enc A n xs ∧
      ((d.weights Try.prog 27).all (· ≤ reachBytes) = true → n * 40 ≤ 140737488351232) := by
  obtain ⟨cs, rfl, hsz⟩ := okWide_struct Try.underlying27 hv
  obtain ⟨l⟩ := cs
  match l, hsz.trans cells_man with
  | [c0, c1, c2, c3, c4, c5, c6, c7, c8, c9, c10, c11, c12], _ =>
    obtain ⟨fuel, hf⟩ := h
    obtain ⟨xs, n, _, hx, _, hlen, hg⟩ := DataW.trod_struct Try.underlying27 hf
    match xs, hlen with
    | [x0, x1, x2, x3, x4, x5, x6], _ =>
      have g0 := hg 0 _ rfl
      have g1 := hg 1 _ rfl
      have g2 := hg 2 _ rfl
      have g3 := hg 3 _ rfl
      have g4 := hg 4 _ rfl
      have g5 := hg 5 _ rfl
      have g6 := hg 6 _ rfl
      simp [Value.cells, cells_arr, cells_int, cells_i64, cells_sl] at g0 g1 g2 g3 g4 g5 g6
      obtain ⟨w0, w1, w2, rfl, rfl, rfl, _⟩ := open_arr3 g0
      obtain ⟨r0, r1, r2, rfl, rfl, rfl, _⟩ := open_arr3 g5
      obtain ⟨l0, l1, l2, rfl, rfl, rfl, _⟩ := open_arr3 g6
      obtain ⟨nx, e1, _, _⟩ := DataW.trod_int Try.underlying3 g1
      obtain ⟨lg, e2, _, _⟩ := DataW.trod_int Try.underlying3 g2
      obtain ⟨ct, e4, _, _⟩ := DataW.trod_int Try.underlying2 g4
      simp at e1 e2 e4
      subst e1 e2 e4
      obtain ⟨A, m, c, ys, rfl, hA, hE, hw⟩ := open_infos g3
      refine ⟨⟨w0, w1, w2, nx, lg, ct, r0, r1, r2, l0, l1, l2⟩, A, m, c, ys, rfl, hA, hE, fun hall => ?_⟩
      rcases hw with rfl | ⟨el, sp, he, hl⟩
      · omega
      · simp only [Prod.mk.injEq] at hx
        have hmem : (el.length + sp.length) * 40 ∈ d.weights Try.prog 27 := by
          rw [hx.1]
          simp only [DataW.weights, Try.underlying27]
          refine DataW.weights_mem_each (j := 3) (t := 25) (d := x3.1) rfl rfl _ ?_
          rw [he]
          simp [DataW.weights, Try.underlying25, bytes_info]
        have h2 : (el.length + sp.length) * 40 ≤ reachBytes := by simpa using List.all_eq_true.1 hall _ hmem
        have h3 : reachBytes = 140737488351232 := rfl
        omega
end
end Go.Proofs.Ytfokjcoiehgbpaa
