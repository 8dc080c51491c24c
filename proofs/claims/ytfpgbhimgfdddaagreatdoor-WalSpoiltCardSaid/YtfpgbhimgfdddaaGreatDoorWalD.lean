/- The listed variables of the laws of layer 16: what they hold at the start; a world for the witness. -/
import Derived.Test.YtfpgbhimgfdddaaGreatDoorStgD
import Derived.Test.YtfpgbhimgfdddaaGreatDoorWax04
set_option linter.unusedVariables false
set_option linter.unusedSimpArgs false
namespace Go.Proofs.YtfpgbhimgfdddaaGreatDoor
open Go.ChangeShapes Go.WideShapes Go.ChangeAt Go.RowKit Go.ChangeMaps
set_option maxRecDepth 100000 in
theorem wal_start {W : World} (h : laidMet Tryz.prog Rows.walRefusesRow.laid W) : ∃ a, SCon W.heap.size a ∧ SEnv W.heap.size a W ∧ Fail6 W.heap.size a W := by
  have h1 := laidMet_tail h
  have h2 := laidMet_tail h1
  have h3 := laidMet_tail h2
  have h4 := laidMet_tail h3
  have h5 := laidMet_tail h4
  have h6 := laidMet_tail h5
  have h7 := laidMet_tail h6
  have h8 := laidMet_tail h7
  have h9 := laidMet_tail h8
  have h10 := laidMet_tail h9
  have h11 := laidMet_tail h10
  have h12 := laidMet_tail h11
  have h13 := laidMet_tail h12
  have h14 := laidMet_tail h13
  obtain ⟨a1, s1, p1, q1, r1, b1⟩ := sent_at h6 (g := 5) (by kernel_rfl) (by kernel_rfl)
  obtain ⟨a2, s2, p2, q2, r2, b2⟩ := sent_at h7 (g := 6) (by kernel_rfl) (by kernel_rfl)
  obtain ⟨a3, s3, p3, q3, r3, b3⟩ := sent_at h8 (g := 3) (by kernel_rfl) (by kernel_rfl)
  obtain ⟨a4, s4, p4, q4, r4, b4⟩ := sent_at h9 (g := 0) (by kernel_rfl) (by kernel_rfl)
  obtain ⟨a5, s5, p5, q5, r5, b5⟩ := sent_at h10 (g := 1) (by kernel_rfl) (by kernel_rfl)
  obtain ⟨a6, s6, p6, q6, r6, b6⟩ := sent_at h11 (g := 4) (by kernel_rfl) (by kernel_rfl)
  obtain ⟨a7, s7, p7, q7, r7, b7⟩ := sent_at h12 (g := 2) (by kernel_rfl) (by kernel_rfl)
  have hpow : PowTab W := Lib.tabIs_of_head (g := 9) (t := 284) (e := 186) (n := 20) (by kernel_rfl) (by kernel_rfl) (by kernel_rfl) (by kernel_rfl) (by kernel_rfl) (by kernel_rfl) h2
  have hnibT : Lib.TabIs Tryz.prog W "almanac/enc.nibbles" .u32 [0, 274646895, 549293790, 820201905, 1098587580, 1361435347, 1640403810, 1905808397, 2197175160, 2460548119, 2722870694, 2987750089, 3280807620, 3553878443, 3811616794, 4084100981] := Lib.tabIs_of_head (g := 7) (t := 219) (e := 183) (n := 16) (by kernel_rfl) (by kernel_rfl) (by kernel_rfl) (by kernel_rfl) (by kernel_rfl) (by kernel_rfl) h13
  have hnib : NibTab W := fun i hi => by
    rw [hnibT.cell (by kernel_rfl) i hi]
    rcases (by omega : i = 0 ∨ i = 1 ∨ i = 2 ∨ i = 3 ∨ i = 4 ∨ i = 5 ∨ i = 6 ∨ i = 7 ∨ i = 8 ∨ i = 9 ∨ i = 10 ∨ i = 11 ∨ i = 12 ∨ i = 13 ∨ i = 14 ∨ i = 15) with rfl | rfl | rfl | rfl | rfl | rfl | rfl | rfl | rfl | rfl | rfl | rfl | rfl | rfl | rfl | rfl <;> rfl
  have hall : ∀ k, SentIs W k (match k with | 1 => a1 | 2 => a2 | 3 => a3 | 4 => a4 | 5 => a5 | 6 => a6 | _ => a7) := by
    intro k
    match k with
    | 1 => exact ⟨p1, ⟨s1, q1, r1⟩, b1⟩
    | 2 => exact ⟨p2, ⟨s2, q2, r2⟩, b2⟩
    | 3 => exact ⟨p3, ⟨s3, q3, r3⟩, b3⟩
    | 4 => exact ⟨p4, ⟨s4, q4, r4⟩, b4⟩
    | 5 => exact ⟨p5, ⟨s5, q5, r5⟩, b5⟩
    | 6 => exact ⟨p6, ⟨s6, q6, r6⟩, b6⟩
    | 0 => exact ⟨p7, ⟨s7, q7, r7⟩, b7⟩
    | _ + 7 => exact ⟨p7, ⟨s7, q7, r7⟩, b7⟩
  obtain ⟨a, ha⟩ : ∃ a : Nat → Addr, ∀ k, SentIs W k (a k) := ⟨_, hall⟩
  refine ⟨a, ⟨fun i j hi1 hi2 hj1 hj2 hne e => ?_, lt_of_cell (hnib 0 (by decide)), lt_of_cell (Lib.TabIs.cell hpow (by kernel_rfl) 0 (by decide))⟩, ⟨⟨fun k hk => ⟨lt_of_cell (ha k).1, (ha k).1⟩, fun k h1 h2 => ?_⟩, hnib, hpow, Nat.le_refl _⟩, ⟨lt_of_cell (ha 6).1, (ha 6).1⟩⟩
  · obtain ⟨si, ci, ti⟩ := (ha i).2.1
    obtain ⟨sj, cj, tj⟩ := (ha j).2.1
    rw [e, cj] at ci
    injection ci with ci
    injection ci with ci
    refine sentT_inj i ?_ j ?_ hne ?_
    · simp; omega
    · simp; omega
    · rw [← ti, ← tj, ci]
  · obtain ⟨c, t, e⟩ := (ha k).2.2
    exact ⟨(Array.getElem?_eq_some_iff.1 e).1, c, t, e⟩
def litCells2 : DataW Unit → Array Value
  | .agg l => (l.flatMap fun | .agg m => m.map (fun | .lit (.int k v) => Value.int k v | _ => undef) | .lit (.int k v) => [Value.int k v] | _ => []).toArray
  | _ => #[]
/-- A world for the witness: the settled one, the tables and the nine variables holding what their initialisers lay. -/
noncomputable def walWorld (os : Os) : World :=
  let N := (World.settled Tryz.prog os).heap.size
  let w0 := World.holding Tryz.prog os ⟨#[
    .cells #[.string ⟨(sentT 1).toArray⟩] 308, .cells #[.string ⟨(sentT 2).toArray⟩] 308, .cells #[.string ⟨(sentT 3).toArray⟩] 308,
    .cells #[.string ⟨(sentT 4).toArray⟩] 308, .cells #[.string ⟨(sentT 5).toArray⟩] 308, .cells #[.string ⟨(sentT 6).toArray⟩] 308, .cells #[.string ⟨(sentT 7).toArray⟩] 308,
    .cells #[.string ⟨#[118, 97, 108, 117, 101, 32, 111, 117, 116, 32, 111, 102, 32, 114, 97, 110, 103, 101]⟩] 308, .cells #[.string ⟨#[105, 110, 118, 97, 108, 105, 100, 32, 115, 121, 110, 116, 97, 120]⟩] 308], #[], []⟩
  let put (h : Array Obj) (g : Nat) (k : Nat) : Array Obj := h.modify g fun
    | .cells _ t frozen => .cells #[.iface 306 (.pointer (some ⟨N + k, 0, none⟩))] t frozen
    | o => o
  let tab (h : Array Obj) (g : Nat) (d : DataW Unit) : Array Obj := h.modify g fun
    | .cells _ t frozen => .cells (litCells2 d) t frozen
    | o => o
  { w0 with heap := tab (tab (tab (tab (tab (tab (put (put (put (put (put (put (put (put (put w0.heap 5 0) 6 1) 3 2) 0 3) 1 4) 4 5) 2 6) 11 7) 10 8)
    12 Rows.laid_math_bits_deBruijn32tab) 13 Rows.laid_math_bits_deBruijn64tab) 9 Rows.laid_internal_strconv_uint64pow10) 7 Rows.laid_almanac_enc_nibbles) 15 Rows.laid_unicode_utf8_acceptRanges) 14 Rows.laid_unicode_utf8_first }
set_option maxRecDepth 1000000 in
theorem wal_met (os : Os) (args : Array Value) : laidMet Tryz.prog Rows.walRefusesRow.laid ((walWorld os).forCall (fun _ _ => 0) ⟨#[], args, []⟩).memory :=
  laidMet_of_run' 8 (by kernel_rfl) (by kernel_rfl)
end Go.Proofs.YtfpgbhimgfdddaaGreatDoor
