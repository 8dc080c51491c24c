/- Opening an argument that is a set of bytes ([4]uint64). -/
import Derived.Test.YtlmnincllndpnaaOpenS
import Derived.Test.YtlmnincllndpnaaRexSets
import Derived.Deep.Slices
namespace Go.Proofs.Ytlmnincllndpnaa
open Go.ChangeShapes Go.WideShapes Go.ChangeAt Go.RowKit Go.Deep
theorem cells_u64 : Try.prog.cellsOf 43 = 1 := by kernel_rfl
theorem cells_set : Try.prog.cellsOf 45 = 4 := by kernel_rfl
theorem wf_u64 {n : Int} (h : (Lit.int .u64 n).wf = true) : 0 ≤ n ∧ n < 18446744073709551616 := by
  have h1 : IntKind.u64.min = 0 := rfl
  have h2 : IntKind.u64.max = 18446744073709551615 := rfl
  simp only [Lit.wf, Bool.and_eq_true, decide_eq_true_eq] at h
  omega
theorem okWide_array {P : Program} {w : World} {r : Reach} {base : Nat} {t e : TypeId} {n : Nat} {v : Value} (ht : P.underlying t = some (.array n e)) (h : Value.okWide P w r base t v) : ∃ cs, v = .agg cs ∧ cs.size = P.cellsOf t := by
  simp only [Value.okWide, ht] at h
  obtain ⟨cs, h1, h2, _⟩ := h
  exact ⟨cs, h1, h2⟩
section
variable {H : Type} {enc : TypeId × Value → H} {w : World} {base : Nat} {spare : Nat → Bool} {held : Bool}
set_option maxRecDepth 100000 in
theorem open_set {r : Reach} {b0 : Nat} {v : Value} {d : DataW H} {ps : List MemPlace} (hv : Value.okWide Try.prog w r b0 45 v) (h : DataW.Trod enc Try.prog w base spare held 45 v d ps) : ∃ s : Nat, v = setVal s := by
  obtain ⟨cs, rfl, hsz⟩ := okWide_array Try.underlying45 hv
  obtain ⟨l⟩ := cs
  match l, hsz.trans cells_set with
  | [c0, c1, c2, c3], _ =>
    obtain ⟨fuel, hf⟩ := h
    obtain ⟨xs, m, _, _, _, hl, hg⟩ := DataW.trod_array Try.underlying45 hf
    rw [cells_u64] at hg
    match xs, hl with
    | [x0, x1, x2, x3], _ =>
      have g0 := hg 0 (by omega)
      have g1 := hg 1 (by omega)
      have g2 := hg 2 (by omega)
      have g3 := hg 3 (by omega)
      simp [Value.cells] at g0 g1 g2 g3
      obtain ⟨a, e0, _, wa⟩ := DataW.trod_int Try.underlying43 g0
      obtain ⟨b, e1, _, wb⟩ := DataW.trod_int Try.underlying43 g1
      obtain ⟨c, e2, _, wc⟩ := DataW.trod_int Try.underlying43 g2
      obtain ⟨d, e3, _, wd⟩ := DataW.trod_int Try.underlying43 g3
      simp at e0 e1 e2 e3
      subst e0 e1 e2 e3
      have ha := wf_u64 wa
      have hb := wf_u64 wb
      have hc := wf_u64 wc
      have hd := wf_u64 wd
      obtain ⟨h0, h1, h2, h3⟩ := word_mk (a := a.toNat) (b := b.toNat) (c := c.toNat) (d := d.toNat) (by omega) (by omega) (by omega) (by omega)
      refine ⟨mkSet a.toNat b.toNat c.toNat d.toNat, ?_⟩
      unfold setVal
      rw [h0, h1, h2, h3, Int.toNat_of_nonneg ha.1, Int.toNat_of_nonneg hb.1, Int.toNat_of_nonneg hc.1, Int.toNat_of_nonneg hd.1]
end
theorem regexSets_int (v : Nat) (b : Int) (w : World) (h0 : 0 ≤ b) (h1 : b < 256) :
    Calls Try.prog 8 #[setVal v, .int .u8 b] w fun e w' => e = .returned (.bool true) ∧ Below w.heap.size w w' := by
  obtain ⟨n, rfl⟩ := Int.eq_ofNat_of_zero_le h0
  exact regexSets_calls v n (by omega) w
end Go.Proofs.Ytlmnincllndpnaa
