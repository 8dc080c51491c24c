/- Opening the argument of layer 16's law WalSpoilt. -/
import Derived.Test.YtfpgbhimgfdddaaGreatDoorWalOpen
set_option linter.unusedVariables false
set_option linter.unusedSimpArgs false
namespace Go.Proofs.YtfpgbhimgfdddaaGreatDoor
open Go.ChangeShapes Go.WideShapes Go.ChangeAt Go.RowKit Go.Deep
theorem cells_sstrW : Tryz.prog.cellsOf 78 = 1 := by kernel_rfl
theorem cells_u8W : Tryz.prog.cellsOf 5 = 1 := by kernel_rfl
theorem cells_spoilt : Tryz.prog.cellsOf 80 = 4 := by kernel_rfl
theorem bytes_strW : Tryz.prog.bytesOf 9 = 16 := by kernel_rfl
/-- Payloads, which of them is spoilt, and where. -/
structure SpE where
  A : Option Addr
  c : Nat
  l : List Txt
  pick : Int
  at_ : Int
  msk : UInt8
def spV (y : SpE) : Array Value := #[.slice y.A y.l.length y.c, .int .i64 y.pick, .int .i64 y.at_, .int .u8 (y.msk.toNat : Int)]
section
variable {H : Type} {enc : TypeId × Value → H} {w : World} {base : Nat} {spare : Nat → Bool} {held : Bool}
theorem open_textsW {fuel : Nat} {v : Value} {x : DataW H × List MemPlace} (h : DataW.trod enc Tryz.prog w base spare held fuel 78 [v] = some x) :
    ∃ A n c l, v = .slice A n c ∧ (A = none → c = 0) ∧ n ≤ c ∧ Strs w A n l ∧ (Light Tryz.prog 78 x.1 → n * 16 ≤ 140737488351232 ∧ ∀ s ∈ l, s.length ≤ 140737488351232) := by
  obtain ⟨A, n, c, l, rfl, h1, h2, h3, h4, _⟩ := open_row (ea := enc1) (Q := fun d s => d = .lit (.string s)) Tryz.underlying78 cells_strW (by omega) (fun _ => rfl) (fun _ _ _ h => by
    obtain ⟨X, e2, f2, _⟩ := DataW.trod_string Tryz.underlying9 h
    exact ⟨X.data.toList, e2, congrArg Prod.fst f2⟩) h
  refine ⟨A, n, c, l, rfl, h1, h2, h3, fun hL => ⟨?_, fun s hs => ?_⟩⟩
  · have := (h4 hL).1
    rwa [bytes_strW] at this
  · obtain ⟨d, hd, rfl⟩ := (h4 hL).2 s hs
    exact hd.text
set_option maxRecDepth 100000 in
theorem open_spoilt {r : Reach} {b0 : Nat} {v : Value} {d : DataW H} {ps : List MemPlace} (hv : Value.okWide Tryz.prog w r b0 80 v) (h : DataW.Trod enc Tryz.prog w base spare held 80 v d ps) :
    ∃ y : SpE, v = .agg (spV y) ∧ i64 y.pick ∧ i64 y.at_ ∧ Strs w y.A y.l.length y.l ∧
      (Light (H := H) Tryz.prog 80 d → y.l.length * 16 ≤ 140737488351232 ∧ ∀ s ∈ y.l, s.length ≤ 140737488351232) := by
  obtain ⟨cs, rfl, hsz⟩ := okWide_struct Tryz.underlying80 hv
  obtain ⟨l⟩ := cs
  obtain ⟨fuel, hf⟩ := h
  obtain ⟨xs, n, _, hx, hcl, hlen, hg⟩ := DataW.trod_struct Tryz.underlying80 hf
  rw [cells_spoilt] at hcl
  have hcl2 : l.length = 4 := by simpa [Value.cells] using hcl
  match l, hcl2, xs, hlen with
  | [c0, c1, c2, c3], _, [x0, x1, x2, x3], _ =>
    have g0 := hg 0 _ rfl
    have g1 := hg 1 _ rfl
    have g2 := hg 2 _ rfl
    have g3 := hg 3 _ rfl
    simp [cells_intW, cells_sstrW, cells_u8W, Value.cells] at g0 g1 g2 g3
    obtain ⟨A, k, c, tx, e0, hA, hc, hd, hL0⟩ := open_textsW g0
    obtain ⟨pk, e1, _, ipk⟩ := DataW.trod_int Tryz.underlying3 g1
    obtain ⟨at_, e2, _, iat⟩ := DataW.trod_int Tryz.underlying3 g2
    obtain ⟨mz, e3, _, imz⟩ := DataW.trod_int Tryz.underlying5 g3
    simp at e1 e2 e3
    subst e0 e1 e2 e3
    have hk : tx.length = k := Elems.len hd
    subst hk
    have hmz := wf_u8 imz
    have hmk : ((UInt8.ofNat mz.toNat).toNat : Int) = mz := by
      rw [UInt8.toNat_ofNat', Nat.mod_eq_of_lt (by omega)]
      omega
    refine ⟨⟨A, c, tx, pk, at_, UInt8.ofNat mz.toNat⟩, ?_, wf_i64 ipk, wf_i64 iat, hd, fun hL => ?_⟩
    · unfold spV
      dsimp only
      rw [hmk]
    · have hx2 : d = _ := congrArg Prod.fst hx
      rw [hx2] at hL
      exact hL0 (hL.part Tryz.underlying80 (j := 0) rfl rfl)
end
end Go.Proofs.YtfpgbhimgfdddaaGreatDoor
