/- WalSpoilt answers true for all payloads: the tied card. No condition. -/
import Derived.Test.YtfpgbhimgfdddaaGreatDoorWalD
import Derived.Test.YtfpgbhimgfdddaaGreatDoorWalOpenS
import Derived.Test.YtfpgbhimgfdddaaGreatDoorWalSpoilW
import Derived.Test.YtfpgbhimgfdddaaGreatDoorStgD
set_option linter.unusedVariables false
set_option linter.unusedSimpArgs false
namespace Go.Proofs.YtfpgbhimgfdddaaGreatDoor
open Go.ChangeShapes Go.WideShapes Go.ChangeAt Go.RowKit Go.ChangeMaps

theorem wspoil_reads (os : Os) {H : Type} (enc : TypeId × Value → H) : ∃ places, DataW.whole enc Tryz.prog ((walWorld os).forCall (fun _ _ => 0) ⟨#[], #[.agg #[.slice none 0 0, .int .i64 0, .int .i64 0, .int .u8 0]], []⟩).memory Tryz.f7.params.toList Rows.walSpoiltSpec.vars false #[Value.agg #[.slice none 0 0, .int .i64 0, .int .i64 0, .int .u8 0]].toList 8 = some ([.agg [.nil, .lit (.int .i64 0), .lit (.int .i64 0), .lit (.int .u8 0)]], [], places) :=
  ⟨[], by kernel_rfl⟩

set_option maxRecDepth 100000 in
theorem wspoil_contract (H : Type) (enc : TypeId × Value → H) (W : World) (base : Nat) (args : Array Value) (ds gs : List (DataW H)) (before : List MemPlace)
    (hval0 : ∀ (j : Nat) t v, Tryz.f7.params[j]? = some t → args[j]? = some v → Value.okWide Tryz.prog W .any base t v)
    (hW : DataW.Whole enc Tryz.prog Tryz.f7.params.toList Rows.walSpoiltSpec.vars false W args.toList ds gs before) (hsz0 : (DataW.weightsEach Tryz.prog (Tryz.f7.params.toList ++ Rows.walSpoiltSpec.plain.varTypes Tryz.prog) (ds ++ gs)).all (· ≤ reachBytes) = true) (hL : laidMetH Tryz.prog Rows.walSpoiltRow.laid W) :
    Calls Tryz.prog 7 args W fun e W' => ∃ v, e = .returned v ∧ Rows.walSpoiltSpec.post enc Tryz.prog Tryz.f7 false true false false W args v W' := by
  have hval := hval0
  have hW' := hW
  have hsz := hsz0
  obtain ⟨p, q, hA0, hV, rfl, _, _⟩ := hW
  have hA : DataW.TrodAll enc Tryz.prog W 0 (fun _ => true) true Tryz.f7.params.toList args.toList ds p := hA0
  rw [Tryz.params7] at hA hval hsz
  obtain ⟨v0, d0, rfl, rfl, h0⟩ := trodAll_one hA
  obtain ⟨rfl, rfl⟩ := trodVars_none hV
  clear hA0 hval0 hsz0
  simp only [List.append_nil] at hW'
  have hlt : ∀ x ∈ p, x.block < W.heap.size := fun x hx => by simpa using hW'.lt x (by simpa using hx)
  have hargs : ∀ (W' : World), Below W.heap.size W W' → DataW.TrodAll enc Tryz.prog W' 0 (fun b => decide (b < W.heap.size)) true [80] [v0] [d0] (p) :=
    fun W' hn => trodAll_mk1 (Below.trod Tryz.laidOut (by kernel_rfl) (of_decide_eq_true (by kernel_rfl)) h0 hn (fun x hx => hlt x (by simp [hx])))
  have lg0 := Light.of hsz (j := 0) rfl rfl
  obtain ⟨y0, rfl, hpk0, hat0, hS0, hm0⟩ := open_spoilt (hval 0 80 v0 rfl rfl) h0
  have hl0 := hm0 lg0
  obtain ⟨a, hC, hE, h6⟩ := wal_start hL
  refine (walspoilt_calls y0.A y0.l.length y0.c y0.l y0.pick y0.at_ y0.msk hpk0.1 hpk0.2 hat0.1 hat0.2 W hS0 (fun t ht => by have := hl0.2 t ht; omega) (by have := hl0.1; omega) hC hE h6).mono fun e W' ⟨he, hb⟩ => ?_
  subst he
  exact ⟨_, rfl, _, _, _, [], _, [], hW', trodAll_mk1 (shut_bool Tryz.underlying4 true), hargs _ hb, rfl, hb.frame _, fun h => by cases h⟩

set_option maxRecDepth 100000 in
theorem wspoil_lifted (os : Os) (started : os.Started) (H : Type) (enc : TypeId × Value → H) (F : Stop.Interp) :
    ReturnsInHanded {} Tryz.checked os 7 .any ((OpenSpec.ofChange Rows.walSpoiltSpec).preRow enc Tryz.prog Tryz.f7 Rows.walSpoiltRow.domain false Rows.walSpoiltRow.laid) (((OpenSpec.ofChange Rows.walSpoiltSpec).at F).post enc Tryz.prog Tryz.f7 false true false false) := by
  obtain ⟨places, hx⟩ := wspoil_reads os enc
  refine returnsInHanded_of_row (C := Tryz.checked) (s := OpenSpec.ofChange Rows.walSpoiltSpec) Tryz.own started (by kernel_rfl) Tryz.func7
    (witness_row_atRef (enc := enc) (C := Tryz.checked) false (walWorld os) #[.agg #[.slice none 0 0, .int .i64 0, .int .i64 0, .int .u8 0]] rfl (by kernel_rfl) (by kernel_rfl) (by kernel_rfl)
      (OpenSpec.preRow_of_cond 8 hx (by kernel_rfl) (fun k hk => by cases hk) (by kernel_rfl) (wal_met os _))) ?_
  intro W base args ds gs before hval hW _ _ hsz hL _ _
  exact wspoil_contract H enc W base args ds gs before hval hW hsz hL

theorem wspoil_said : Rows.WalSpoiltSaid :=
  OpenClaim.holds_of_cond 7 Tryz.f7 rfl rfl rfl rfl rfl rfl rfl ⟨rfl, rfl, rfl, rfl, rfl⟩ rfl rfl rfl rfl rfl (by kernel_rfl) Tryz.func7 (by kernel_rfl)
    (of_decide_eq_true (by kernel_rfl)) (by unfold Func.isWrapper; first | (rw [if_pos (by decide +kernel)]; kernel_rfl) | (rw [if_neg (by decide +kernel)]; exact ⟨rfl, rfl⟩))
    (fun os started H enc _ F => by rw [OpenClaim.pre_eq_preRow]; exact wspoil_lifted os started H enc F)
theorem wspoil_plain (f : FuncId) (fn : Func) (hf : Tryz.pinned.checked.prog.funcNamed "almanac/almanaclaw16.WalSpoilt" = some f) (hfn : Tryz.pinned.checked.prog.funcs[f]? = some fn) :
    true = Tryz.pinned.checked.prog.looks [] ∧ ∀ (j : Nat) t, fn.params[j]? = some t → Tryz.pinned.checked.prog.wantsStandIn t = false := by
  obtain rfl : f = 7 := Option.some.inj ((show Tryz.prog.funcNamed "almanac/almanaclaw16.WalSpoilt" = some 7 by kernel_rfl).symm.trans hf) |>.symm
  obtain rfl : fn = Tryz.f7 := (Option.some.inj (Tryz.func7.symm.trans hfn)).symm
  refine ⟨by kernel_rfl, fun j t ht => ?_⟩
  rw [Tryz.params7] at ht
  have hm : t = 80 := by simpa using Array.mem_of_getElem? ht
  subst hm
  exact (show Tryz.prog.wantsStandIn 80 = false by kernel_rfl)
theorem walSpoilt_holds : Rows.WalSpoiltCardSaid :=
  Claim7.holds_tied_plain_at .later [] _ _ _ _ wspoil_said (fun _ h => by cases h) (by kernel_rfl) (fun _ h => by cases h) walSpoilt_row_tie rfl ⟨rfl, rfl⟩ (by kernel_rfl) rfl wspoil_plain (by kernel_rfl)
end Go.Proofs.YtfpgbhimgfdddaaGreatDoor
