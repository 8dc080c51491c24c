/- Opening a crash (layer 20's law StoreSaves). -/
import Derived.Test.YtfpgbhimgfdddaaGreatDoorStk35
set_option linter.unusedVariables false
set_option linter.unusedSimpArgs false
namespace Go.Proofs.YtfpgbhimgfdddaaGreatDoor
open Go.ChangeShapes Go.WideShapes Go.ChangeAt Go.RowKit Go.Deep
theorem cells_boolT : Tryz.prog.cellsOf 4 = 1 := by kernel_rfl
theorem cells_sintT : Tryz.prog.cellsOf 58 = 1 := by kernel_rfl
theorem bytes_intT : Tryz.prog.bytesOf 3 = 8 := by kernel_rfl
theorem cells_crash : Tryz.prog.cellsOf 60 = 8 := by kernel_rfl
/-- A crash: a block's number and files, at which step, what is left. -/
structure CrE where
  id : Int
  FA : ByteArray
  FB : ByteArray
  FC : ByteArray
  at_ : Int
  names : Int
  A : Option Addr
  c : Nat
  data : List Int
  z : Bool
def crV (y : CrE) : Array Value := #[.int .i64 y.id, .string y.FA, .string y.FB, .string y.FC, .int .i64 y.at_, .int .i64 y.names, .slice y.A y.data.length y.c, .bool y.z]
section
variable {H : Type} {enc : TypeId × Value → H} {w : World} {base : Nat} {spare : Nat → Bool} {held : Bool}
theorem open_ints4 {fuel : Nat} {v : Value} {x : DataW H × List MemPlace} (h : DataW.trod enc Tryz.prog w base spare held fuel 58 [v] = some x) :
    ∃ A n c l, v = .slice A n c ∧ (A = none → c = 0) ∧ n ≤ c ∧ Ints3 w A n l ∧ (∀ z ∈ l, i64 z) ∧ (Light Tryz.prog 58 x.1 → n * 8 ≤ 140737488351232) := by
  obtain ⟨A, n, c, l, rfl, h1, h2, h3, h4, h5⟩ := open_row (ea := I1) (Q := fun _ z => i64 z) Tryz.underlying58 cells_intT (by omega) (fun _ => rfl) (fun _ _ _ h => by
    obtain ⟨z, rfl, rfl, hz⟩ := DataW.trod_int Tryz.underlying3 h
    exact ⟨z, rfl, wf_i64 hz⟩) h
  refine ⟨A, n, c, l, rfl, h1, h2, h3, fun z hz => ?_, fun hL => ?_⟩
  · obtain ⟨_, hq⟩ := h5 z hz
    exact hq
  · have := (h4 hL).1
    rwa [bytes_intT] at this
set_option maxRecDepth 100000 in
theorem open_crash {r : Reach} {b0 : Nat} {v : Value} {d : DataW H} {ps : List MemPlace} (hv : Value.okWide Tryz.prog w r b0 60 v) (h : DataW.Trod enc Tryz.prog w base spare held 60 v d ps) :
    ∃ y : CrE, v = .agg (crV y) ∧ i64 y.id ∧ i64 y.at_ ∧ i64 y.names ∧ (y.A = none → y.c = 0) ∧ y.data.length ≤ y.c ∧ Ints3 w y.A y.data.length y.data ∧ (∀ z ∈ y.data, i64 z) ∧
      (Light (H := H) Tryz.prog 60 d → y.FA.size ≤ 140737488351232 ∧ y.FB.size ≤ 140737488351232 ∧ y.FC.size ≤ 140737488351232 ∧ y.data.length * 8 ≤ 140737488351232) := by
  obtain ⟨cs, rfl, hsz⟩ := okWide_struct Tryz.underlying60 hv
  obtain ⟨l⟩ := cs
  obtain ⟨fuel, hf⟩ := h
  obtain ⟨xs, n, _, hx, hcl, hlen, hg⟩ := DataW.trod_struct Tryz.underlying60 hf
  rw [cells_crash] at hcl
  have hcl2 : l.length = 8 := by simpa [Value.cells] using hcl
  match l, hcl2, xs, hlen with
  | [c0, c1, c2, c3, c4, c5, c6, c7], _, [x0, x1, x2, x3, x4, x5], _ =>
    have g0 := hg 0 _ rfl
    have g1 := hg 1 _ rfl
    have g2 := hg 2 _ rfl
    have g3 := hg 3 _ rfl
    have g4 := hg 4 _ rfl
    have g5 := hg 5 _ rfl
    simp [cells_intT, cells_files, cells_sintT, cells_boolT, Value.cells] at g0 g1 g2 g3 g4 g5
    obtain ⟨id, e0, _, iid⟩ := DataW.trod_int Tryz.underlying3 g0
    obtain ⟨FA, FB, FC, e1, hF⟩ := open_filesL g1
    obtain ⟨at_, e2, _, iat⟩ := DataW.trod_int Tryz.underlying3 g2
    obtain ⟨nm, e3, _, inm⟩ := DataW.trod_int Tryz.underlying3 g3
    obtain ⟨A, k, c, data, e4, hA, hc, hd, hi, hL4⟩ := open_ints4 g4
    obtain ⟨z, e5, _, _⟩ := DataW.trod_bool Tryz.underlying4 g5
    simp at e0 e1 e2 e3 e5
    obtain ⟨e1a, e1b, e1c⟩ := e1
    subst e0 e1a e1b e1c e2 e3 e4 e5
    have hk : data.length = k := Elems.len hd
    subst hk
    refine ⟨⟨id, FA, FB, FC, at_, nm, A, c, data, z⟩, rfl, wf_i64 iid, wf_i64 iat, wf_i64 inm, hA, hc, hd, hi, fun hL => ?_⟩
    have hx2 : d = _ := congrArg Prod.fst hx
    rw [hx2] at hL
    have h1 : Light (H := H) Tryz.prog 57 x1.1 := hL.part Tryz.underlying60 (j := 1) rfl rfl
    have h4 := hL4 (hL.part Tryz.underlying60 (j := 4) rfl rfl)
    rw [hF] at h1
    obtain ⟨a1, a2, a3⟩ := files_light h1
    exact ⟨a1, a2, a3, h4⟩
end
end Go.Proofs.YtfpgbhimgfdddaaGreatDoor
