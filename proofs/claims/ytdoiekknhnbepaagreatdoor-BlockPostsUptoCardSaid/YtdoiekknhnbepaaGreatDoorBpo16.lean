/- Merged (what the claim wants of): BlkD, BlkProofPF, BlkProofP. -/
import Derived.Test.YtdoiekknhnbepaaGreatDoorBpo15
import Derived.Test.YtdoiekknhnbepaaGreatDoorCards
import Derived.Test.YtdoiekknhnbepaaGreatDoorTie
import Derived.WalkKit
import Derived.Deep.DeepHandedRow
import Derived.Deep.DeepWitnessRowRef
import Derived.Lib.LaidTab
import Derived.Stop.LaidTwo
import Derived.Test.YtdoiekknhnbepaaGreatDoorRows
import Derived.ProofKit
set_option linter.unusedVariables false
set_option linter.unusedSimpArgs false
set_option maxRecDepth 100000
set_option maxHeartbeats 8000000
namespace Go.Proofs.YtdoiekknhnbepaaGreatDoor
section
open Go.ChangeShapes Go.WideShapes Go.ChangeAt Go.RowKit Go.ChangeMaps
theorem Kuy {P : Program} {W : World} {x : String × DataW Unit} {r : List (String × DataW Unit)} (h : laidMet P (x :: r) W) : laidMet P r W := by
 obtain ⟨ps, ⟨g, t, cs, f, p, q, hg, ht, hv, hd, hr, e⟩, hnd, hrows⟩ := h; subst e; refine ⟨q, hr, ?_, fun b off hm => hrows b off (by simp [hm])⟩
 first | exact (List.nodup_append.1 hnd).2.1 | exact (List.nodup_append.1 (List.nodup_append.1 hnd).2.1).2.1
theorem Qac {W : World} (h : laidMet Tryz.prog Rows.blockBackRow.laid W) : BEnv W := by
 have h1 := Kuy h; have hdbT : Lib.TabIs Tryz.prog W "math/bits.deBruijn64tab" .u8 (Lib.deBruijn64tab.map fun n : Nat => (n : Int)) := Lib.tabIs_of_head (g := 2) (t := 348) (e := 5) (n := 64) (by kernel_rfl) (by kernel_rfl) (by kernel_rfl) (by kernel_rfl) (by kernel_rfl) (by kernel_rfl) h; have hnibT : Lib.TabIs Tryz.prog W "almanac/enc.nibbles" .u32 [0, 274646895, 549293790, 820201905, 1098587580, 1361435347, 1640403810, 1905808397, 2197175160, 2460548119, 2722870694, 2987750089, 3280807620, 3553878443, 3811616794, 4084100981] := Lib.tabIs_of_head (g := 0) (t := 276) (e := 74) (n := 16) (by kernel_rfl) (by kernel_rfl) (by kernel_rfl) (by kernel_rfl) (by kernel_rfl) (by kernel_rfl) h1; refine ⟨fun i hi => ?_, fun i hi => ?_⟩
 ·rw [hnibT.cell (by kernel_rfl) i hi]; rcases (by omega : i = 0 ∨ i = 1 ∨ i = 2 ∨ i = 3 ∨ i = 4 ∨ i = 5 ∨ i = 6 ∨ i = 7 ∨ i = 8 ∨ i = 9 ∨ i = 10 ∨ i = 11 ∨ i = 12 ∨ i = 13 ∨ i = 14 ∨ i = 15) with rfl | rfl | rfl | rfl | rfl | rfl | rfl | rfl | rfl | rfl | rfl | rfl | rfl | rfl | rfl | rfl <;> rfl
 ·rw [hdbT.cell (by kernel_rfl) i (by rw [List.length_map]; exact hi)]; congr 2; rw [List.getD_eq_getElem?_getD, List.getElem?_map, List.getD_eq_getElem?_getD, List.getElem?_eq_getElem hi]; rfl
def Qez : DataW Unit → Array Value
 | .agg l => (l.map fun | .lit (.int k v) => Value.int k v | _ => undef).toArray
 | _ => #[]
noncomputable def Kmp (os : Os) : World :=
 let w0 := World.settled Tryz.prog os
 let tab (h : Array Obj) (g : Nat) (d : DataW Unit) : Array Obj := h.modify g fun
  | .cells _ t frozen => .cells (Qez d) t frozen
  | o => o
 { w0 with heap := tab (tab w0.heap 2 Rows.laid_math_bits_deBruijn64tab) 0 Rows.laid_almanac_enc_nibbles }
set_option maxRecDepth 1000000 in
theorem Qgk (os : Os) (args : Array Value) : laidMet Tryz.prog Rows.blockBackRow.laid ((Kmp os).forCall (fun _ _ => 0) ⟨#[], args, []⟩).memory :=
 laidMet_of_run' 8 (by kernel_rfl) (by kernel_rfl)
theorem Qal : (Rows.blockPostsUptoRow.inPlace == Tryz.pinned.checked.prog.inPlace 10) = true := by kernel_rfl
theorem Qbx : (Rows.blockPostsUptoRow.unfollowed == Tryz.pinned.checked.prog.unfollowed 10) = true := by kernel_rfl
theorem Qce : (Rows.blockPostsUptoRow.recurses == Tryz.pinned.checked.prog.recurses 10) = true := by kernel_rfl
theorem Qbf : (Rows.blockPostsUptoRow.named == Tryz.pinned.checked.prog.varsNamed 10) = true := by kernel_rfl
theorem Ksq : joinedFacts Tryz.pinned.checked.prog 10 Tryz.f10 (Rows.OpenSpec.upto Rows.blockPostsSpec).bare Rows.blockPostsUptoRow = true := by
 unfold joinedFacts; simp only [Bool.and_eq_true]
 repeat' apply And.intro
 all_goals first | with_reducible exact Qal | with_reducible exact Qbx | with_reducible exact Qce | with_reducible exact Qbf | kernel_rfl
theorem Ksk (os : Os) {H : Type} (enc : TypeId × Value → H) : ∃ places, DataW.whole enc Tryz.prog ((Kmp os).forCall (fun _ _ => 0) ⟨#[], #[.agg #[.int .i64 0, .int .i64 0, .int .i64 0, .slice none 0 0], .string ⟨#[]⟩, .string ⟨#[]⟩], []⟩).memory Tryz.f10.params.toList Rows.blockPostsSpec.vars false #[Value.agg #[.int .i64 0, .int .i64 0, .int .i64 0, .slice none 0 0], .string ⟨#[]⟩, .string ⟨#[]⟩].toList 8 = some ([.agg [.lit (.int .i64 0), .lit (.int .i64 0), .lit (.int .i64 0), .nil], .lit (.string []), .lit (.string [])], [], places) :=
 ⟨[], by kernel_rfl⟩
theorem Koe (H : Type) (enc : TypeId × Value → H) (W : World) (base : Nat) (args : Array Value) (ds gs : List (DataW H)) (before : List MemPlace)
  (hval0 : ∀ (j : Nat) t v, Tryz.f10.params[j]? = some t → args[j]? = some v → Value.okWide Tryz.prog W .any base t v)
  (hW : DataW.Whole enc Tryz.prog Tryz.f10.params.toList Rows.blockPostsSpec.vars false W args.toList ds gs before) (hsz0 : (DataW.weightsEach Tryz.prog (Tryz.f10.params.toList ++ Rows.blockPostsSpec.plain.varTypes Tryz.prog) (ds ++ gs)).all (· ≤ reachBytes) = true) (hk0 : Rows.uptoSmall H (ds ++ gs) = true) (hL : laidMetH Tryz.prog Rows.blockPostsRow.laid W) :
  Calls Tryz.prog 10 args W fun e W' => ∃ v, e = .returned v ∧ Rows.blockPostsSpec.post enc Tryz.prog Tryz.f10 false true false false W args v W' := by
 have hval := hval0; have hW' := hW; have hsz := hsz0; obtain ⟨p, q, hA0, hV, rfl, _, _⟩ := hW; have hA : DataW.TrodAll enc Tryz.prog W 0 (fun _ => true) true Tryz.f10.params.toList args.toList ds p := hA0; rw [Tryz.params10] at hA hval hsz; obtain ⟨v0, v1, v2, d0, d1, d2, p0, p1, p2, rfl, rfl, rfl, h0, h1, h2⟩ := trodAll_three hA; obtain ⟨rfl, rfl⟩ := trodVars_none hV; clear hA0 hval0 hsz0; simp only [List.append_nil] at hW'; simp only [List.append_nil] at hk0; have hbulk := Qdn hk0; simp only [Rows.uptoBulkAll, Nat.add_zero] at hbulk; have hlt : ∀ x ∈ p0 ++ (p1 ++ p2), x.block < W.heap.size := fun x hx => by simpa using hW'.lt x (by simpa using hx)
 have hargs : ∀ (W' : World), Below W.heap.size W W' → DataW.TrodAll enc Tryz.prog W' 0 (fun b => decide (b < W.heap.size)) true [28, 9, 9] [v0, v1, v2] [d0, d1, d2] (p0 ++ (p1 ++ p2)) :=
  fun W' hn => trodAll_mk3 (Below.trod Tryz.laidOut (by kernel_rfl) (of_decide_eq_true (by kernel_rfl)) h0 hn (fun x hx => hlt x (by simp [hx]))) (Below.trod Tryz.laidOut (by kernel_rfl) (of_decide_eq_true (by kernel_rfl)) h1 hn (fun x hx => hlt x (by simp [hx]))) (Below.trod Tryz.laidOut (by kernel_rfl) (of_decide_eq_true (by kernel_rfl)) h2 hn (fun x hx => hlt x (by simp [hx])))
 obtain ⟨c0, hd0, rfl, hnc0, hS0, hr0, hf0, ht0, hb0⟩ := Kzz (hval 0 28 v0 rfl rfl) h0; have hI0 := hb0 (by omega); have hZ0 : CSz c0 := ⟨hI0.n, hI0.m, hI0.k, hI0.z⟩; obtain ⟨s1, rfl, rfl, rfl, hs1⟩ := open_string Tryz.underlying9 (hval 1 9 v1 rfl rfl) h1; obtain ⟨s2, rfl, rfl, rfl, hs2⟩ := open_string Tryz.underlying9 (hval 2 9 v2 rfl rfl) h2; have hE := Qac hL; simp only [Rows.uptoBulk] at hbulk; have hs1z : s1.size ≤ 1048576 := by have : s1.data.toList.length = s1.size := rfl; omega
 have hs2z : s2.size ≤ 1048576 := by have : s2.data.toList.length = s2.size := rfl; omega
 refine (Kmg c0 hd0.A hd0.n hd0.c s1 s2 W hI0.ok hZ0 hs1z hs2z hE).mono fun e W' ⟨he, hb⟩ => ?_
 subst he; exact ⟨_, rfl, _, _, _, [], _, [], hW', trodAll_mk1 (shut_bool Tryz.underlying4 true), hargs _ hb, rfl, hb.frame _, fun h => by cases h⟩
theorem Krn (os : Os) (started : os.Started) (H : Type) (enc : TypeId × Value → H) (F : Stop.Interp) :
  ReturnsInHanded {} Tryz.checked os 10 .any ((Rows.OpenSpec.upto Rows.blockPostsSpec).preRow enc Tryz.prog Tryz.f10 Rows.blockPostsUptoRow.domain false Rows.blockPostsUptoRow.laid) (((Rows.OpenSpec.upto Rows.blockPostsSpec).at F).post enc Tryz.prog Tryz.f10 false true false false) := by
 obtain ⟨places, hx⟩ := Ksk os enc
 refine returnsInHanded_of_row (C := Tryz.checked) (s := Rows.OpenSpec.upto Rows.blockPostsSpec) Tryz.own started (by kernel_rfl) Tryz.func10
  (witness_row_atRef (enc := enc) (C := Tryz.checked) false (Kmp os) #[.agg #[.int .i64 0, .int .i64 0, .int .i64 0, .slice none 0 0], .string ⟨#[]⟩, .string ⟨#[]⟩] rfl (by kernel_rfl) (by kernel_rfl) (by kernel_rfl)
   (OpenSpec.preRow_of_cond 8 hx (by kernel_rfl) (fun k hk => by cases hk; kernel_rfl) (by kernel_rfl) (Qgk os _))) ?_
 intro W base args ds gs before hval hW _ hcond hsz hL _ _; exact Koe H enc W base args ds gs before hval hW hsz (hcond _ rfl) hL
theorem Kwm : Rows.BlockPostsUptoSaid :=
 OpenClaim.holds_of_cond 10 Tryz.f10 rfl rfl rfl rfl rfl rfl rfl ⟨rfl, rfl, rfl, rfl, rfl⟩ rfl rfl rfl rfl rfl (by kernel_rfl) Tryz.func10 Ksq
  (of_decide_eq_true (by kernel_rfl)) (by unfold Func.isWrapper; first | (rw [if_pos (by decide +kernel)]; kernel_rfl) | (rw [if_neg (by decide +kernel)]; exact ⟨rfl, rfl⟩))
  (fun os started H enc _ F => by rw [OpenClaim.pre_eq_preRow]; exact Krn os started H enc F)
theorem Ktz (f : FuncId) (fn : Func) (hf : Tryz.pinned.checked.prog.funcNamed "almanac/almanaclaw19.BlockPosts" = some f) (hfn : Tryz.pinned.checked.prog.funcs[f]? = some fn) :
  true = Tryz.pinned.checked.prog.looks [] ∧ ∀ (j : Nat) t, fn.params[j]? = some t → Tryz.pinned.checked.prog.wantsStandIn t = false := by
 obtain rfl : f = 10 := Option.some.inj ((show Tryz.prog.funcNamed "almanac/almanaclaw19.BlockPosts" = some 10 by kernel_rfl).symm.trans hf) |>.symm; obtain rfl : fn = Tryz.f10 := (Option.some.inj (Tryz.func10.symm.trans hfn)).symm; refine ⟨by kernel_rfl, fun j t ht => ?_⟩; rw [Tryz.params10] at ht; have hm : t = 28 ∨ t = 9 ∨ t = 9 := by simpa using Array.mem_of_getElem? ht
 rcases hm with rfl | rfl | rfl
 ·exact (show Tryz.prog.wantsStandIn 28 = false by kernel_rfl)
 ·exact (show Tryz.prog.wantsStandIn 9 = false by kernel_rfl)
 ·exact (show Tryz.prog.wantsStandIn 9 = false by kernel_rfl)
theorem blockPosts_holds : Rows.BlockPostsUptoCardSaid :=
 Claim7.holds_tied_plain_at .later [] _ _ _ _ Kwm (fun _ h => by cases h) (by kernel_rfl) (fun _ h => by cases h) blockPostsUpto_row_tie rfl ⟨rfl, rfl⟩ (by kernel_rfl) rfl Ktz (by kernel_rfl)
end
end Go.Proofs.YtdoiekknhnbepaaGreatDoor
