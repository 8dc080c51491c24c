/- The walk of regex.Parse. -/
import Derived.Test.YtlmnincllndpnaaRexWalksD
import Derived.Test.YtlmnincllndpnaaRexPlain2
import Derived.Recover
namespace Go.Proofs.Ytlmnincllndpnaa
open Go.RowKit
attribute [local go_sem ↓] Go.wp_at_zero Go.wp_at_succ
attribute [local go_sem] Later.cell Later.frozen

theorem reader_ok (n : Nat) : AtomOk n ∧ PieceOk n ∧ BranchOk n ∧ BranchesOk n := by
  induction n using Nat.strongRecOn with
  | _ n ih => exact ⟨atom_calls n (fun m h => (ih m h).2.2.2), piece_calls n (fun m h => (ih m h).1), branch_calls n (fun m h => (ih m h).2.1), branches_calls n (fun m h => (ih m h).2.2.1)⟩

/-- What a pattern is read as. -/
def Parses (l : List UInt8) (res : Except Nat Tr) : Prop :=
  match res with
  | .ok t => l.length ≤ 64 ∧ ∃ n l', run n .branches l 0 = some (.ok (t, l'))
  | .error c => (64 < l.length ∧ c = 60) ∨ (l.length ≤ 64 ∧ ∃ n, run n .branches l 0 = some (.error c))
theorem parses_total (l : List UInt8) : ∃ res, Parses l res := by
  by_cases h : 64 < l.length
  · exact ⟨.error 60, .inl ⟨h, rfl⟩⟩
  · obtain ⟨n, r, hr⟩ := run_ends l 0
    cases r with
    | error c => exact ⟨.error c, .inr ⟨by omega, n, hr⟩⟩
    | ok tl => exact ⟨.ok tl.1, by omega, n, tl.2, hr⟩
theorem parses_one {l : List UInt8} {r r' : Except Nat Tr} (h : Parses l r) (h' : Parses l r') : r = r' := by
  cases r with
  | ok t =>
    obtain ⟨h1, n, l1, h2⟩ := h
    cases r' with
    | ok t' =>
      obtain ⟨h3, m, l2, h4⟩ := h'
      have := run_one h2 h4
      injection this with this; injection this with this _; rw [this]
    | error c =>
      rcases h' with ⟨h3, _⟩ | ⟨_, m, h4⟩
      · omega
      · have := run_one h2 h4; cases this
  | error c =>
    cases r' with
    | ok t' =>
      obtain ⟨h3, m, l2, h4⟩ := h'
      rcases h with ⟨h1, _⟩ | ⟨_, n, h2⟩
      · omega
      · have := run_one h2 h4; cases this
    | error c' =>
      rcases h with ⟨h1, rfl⟩ | ⟨_, n, h2⟩ <;> rcases h' with ⟨h3, rfl⟩ | ⟨_, m, h4⟩
      · rfl
      · omega
      · omega
      · have := run_one h2 h4; injection this with this; rw [this]

def ParseOut (w : World) (res : Except Nat Tr) (e : Ending) (w' : World) : Prop :=
  match res with
  | .ok t => ∃ p, e = .returned (.tuple #[.pointer (some ⟨p, 0, none⟩), .int .i64 0]) ∧ TreeAt w' t w.heap.size w'.heap.size p ∧ Below w.heap.size w w'
  | .error c => e = .returned (.tuple #[.pointer none, .int .i64 c]) ∧ Below w.heap.size w w'

theorem assert_errno (c : Int) (w : World) : (Instr.typeAssert (.iface 25 (.int .i64 c)) 20 25 true).run Try.prog w = .ok (.tuple #[.int .i64 c, .bool true]) w := by kernel_rfl
theorem assert_nil (w : World) : (Instr.typeAssert .nilIface 20 25 true).run Try.prog w = .ok (.tuple #[.int .i64 0, .bool false]) w := by kernel_rfl

set_option maxRecDepth 100000 in
theorem catch_fault (a b : Addr) (x y : Value) (c : Nat) (w : World) (ha : w.cell? a = some x) (fa : w.frozen? a = false) (hb : w.cell? b = some y) (fb : w.frozen? b = false) (hne : a ≠ b) :
    CallsD Try.prog 27 #[.pointer (some a), .pointer (some b)] (.panicking [{ v := .iface 25 (.int .i64 c), recovered := false }]) w fun e u' w' =>
      e = .returned (.tuple #[]) ∧ u' = .panicking [{ v := .iface 25 (.int .i64 c), recovered := true }] ∧ w' = (w.setCell a (.pointer none)).setCell b (.int .i64 c) := by
  refine callsD_of_wpS Try.func27 rfl fun c₀ cs hu => ?_
  apply wpS_seq
  apply wpS_region
  simp [wpOpsS, go_sem, recoverD, hu, Try.ntmps27, Exit.thenS, assert_errno]
  apply wpS_seq
  apply wpS_region
  simp [wpOpsS, go_sem, Exit.thenS]
  refine wpS_cond (t := true) (by simp [Act.eval, Array.replicate]) ?_
  simp only [if_true]
  apply wpS_region
  have hb' : (w.setCell a (.pointer none)).cell? b = some y := by simp [go_sem, hne, hb]
  simp [wpOpsS, go_sem, ha, fa, hb', fb, bodyPostS, results, Try.results27]

set_option maxRecDepth 100000 in
theorem catch_idle (a b : Addr) (w : World) :
    CallsD Try.prog 27 #[.pointer (some a), .pointer (some b)] .returning w fun e u' w' => e = .returned (.tuple #[]) ∧ u' = .returning ∧ w' = w := by
  refine callsD_of_wpS Try.func27 rfl fun c₀ cs hu => ?_
  apply wpS_seq
  apply wpS_region
  simp [wpOpsS, go_sem, recoverD, hu, Try.ntmps27, Exit.thenS, assert_nil]
  apply wpS_seq
  apply wpS_region
  simp [wpOpsS, go_sem, Exit.thenS]
  refine wpS_cond (t := false) (by simp [Act.eval, Array.replicate]) ?_
  simp only [Bool.false_eq_true, if_false]
  refine wpS_of_wp (wp_skip ?_)
  cases c₀
  simp_all [bodyPostS, results, Try.results27]

set_option maxRecDepth 100000 in
set_option maxHeartbeats 1000000 in
theorem parse_calls (s : ByteArray) (res : Except Nat Tr) (h : Parses s.data.toList res) (w : World) :
    Calls Try.prog 13 #[.string s] w (ParseOut w res) := by
  have hmf : ∀ (fn : Fn) (first cap : Array Value) (w : World), (Instr.makeFunc fn first cap).run Try.prog w = .ok (.func fn first cap) w := fun _ _ _ _ => rfl
  have hsz : s.data.toList.length = s.size := rfl
  by_cases hlong : 64 < s.size
  · have hres : res = .error 60 := by
      cases res with
      | ok t => have := h.1; omega
      | error c =>
        rcases h with ⟨_, rfl⟩ | ⟨h1, _⟩
        · rfl
        · omega
    subst hres
    clear h hsz
    go_enter_defers Try.func13, Try.ntmps13
    go_wp2
    exact ⟨.tuple #[.pointer none, .int .i64 60], by simp [results, Try.results13, go_sem], rfl, by go_grown⟩
  · have hz : s.size ≤ 64 := by omega
    obtain ⟨n, r0, hrun, hrel⟩ : ∃ n r0, run n .branches (s.data.toList.drop 0) 0 = some r0 ∧ res = (match r0 with | .ok tl => .ok tl.1 | .error c => .error c) := by
      rw [List.drop_zero]
      cases res with
      | ok t => obtain ⟨_, n, l', h⟩ := h; exact ⟨n, _, h, rfl⟩
      | error c =>
        rcases h with ⟨h1, _⟩ | ⟨_, n, h⟩
        · omega
        · exact ⟨n, _, h, rfl⟩
    have hW : Below w.heap.size w (((w.alloc (.cells #[.pointer none] 23)).alloc (.cells #[.int .i64 0] 25)).alloc (.cells #[.string s, .int .i64 0, .int .i64 0] 58)) := by go_grown
    have hR : Rd (((w.alloc (.cells #[.pointer none] 23)).alloc (.cells #[.int .i64 0] 25)).alloc (.cells #[.string s, .int .i64 0, .int .i64 0] 58)) (w.heap.size + 2) s 0 0 := Blk.newAt (by simp)
    have hA : Blk (((w.alloc (.cells #[.pointer none] 23)).alloc (.cells #[.int .i64 0] 25)).alloc (.cells #[.string s, .int .i64 0, .int .i64 0] 58)) w.heap.size 23 #[.pointer none] := ((Blk.new _ _ _).alloc _).alloc _
    have hB : Blk (((w.alloc (.cells #[.pointer none] 23)).alloc (.cells #[.int .i64 0] 25)).alloc (.cells #[.string s, .int .i64 0, .int .i64 0] 58)) (w.heap.size + 1) 25 #[.int .i64 0] := (Blk.newAt (by simp)).alloc _
    have hZ : (((w.alloc (.cells #[.pointer none] 23)).alloc (.cells #[.int .i64 0] 25)).alloc (.cells #[.string s, .int .i64 0, .int .i64 0] 58)).heap.size = w.heap.size + 3 := by simp
    have HRUN := Lib.hid hrun
    have HREL := Lib.hid hrel
    clear hrun hrel h hsz
    cases r0 with
    | ok tl =>
      obtain ⟨t, l'⟩ := tl
      have hres : res = .ok t := HREL.out
      subst hres
      go_enter_defers Try.func13, Try.ntmps13
      go_wp2_with fail
      obtain ⟨W0, hW0⟩ : ∃ W0, ((w.alloc (.cells #[.pointer none] 23)).alloc (.cells #[.int .i64 0] 25)).alloc (.cells #[.string s, .int .i64 0, .int .i64 0] 58) = W0 := ⟨_, rfl⟩
      rw [hW0] at hW hR hA hB hZ ⊢
      have HZ := Lib.hid hZ
      clear hW0 hZ
      refine ((reader_ok n).2.2.2 (w.heap.size + 2) s 0 0 W0 _ hR (Nat.zero_le _) hz (by omega) HRUN.out).mono ?_
      rintro e w1 ⟨p, j, rfl, hk, _, _, _, ht⟩
      have hA1 := hA.kept hk hA.lt (by simp)
      have hB1 := hB.kept hk hB.lt (by simp)
      have a0 : _ = some (Value.pointer none) := hA1.cell 0
      have a1 := hA1.frozen 0
      have b0 : _ = some (Value.int .i64 0) := hB1.cell 0
      have b1 := hB1.frozen 0
      go_wp2
      refine leaves_cons (f := 27) (args := #[.pointer (some ⟨w.heap.size, 0, none⟩), .pointer (some ⟨w.heap.size + 1, 0, none⟩)]) (by simp) (by simp [go_sem]) ?_
      refine (catch_idle _ _ _).mono ?_
      rintro e u' w'' ⟨rfl, rfl, rfl⟩
      have hA2 := (hA1.set_ 0 (.pointer (some ⟨p, 0, none⟩))).far (p := ⟨w.heap.size + 1, 0, none⟩) (by simp) (.int .i64 0)
      have hB2 := (hB1.far (p := ⟨w.heap.size, 0, none⟩) (by simp) (.pointer (some ⟨p, 0, none⟩))).set_ 0 (.int .i64 0)
      have a2 : _ = some (Value.pointer (some ⟨p, 0, none⟩)) := hA2.cell 0
      have b2 : _ = some (Value.int .i64 0) := hB2.cell 0
      refine ⟨.tuple #[.pointer (some ⟨p, 0, none⟩), .int .i64 0], by simp [results, Try.results13, go_sem, a2, b2], p, rfl, ?_, ?_⟩
      · have := HZ.out
        exact ht.keep (by omega) (by simp [World.setCell]) (fun b hlo _ => (Below.heap_setCell _ _ _ _ (by simp; omega)).trans (Below.heap_setCell _ _ _ _ (by simp; omega)))
      · exact ((hW.trans ((hk.mono (B' := w.heap.size) (by have := HZ.out; omega) (fun _ _ h => h)).below (by simp))).setCell (by simp) _).setCell (by simp) _
    | error c =>
      have hres : res = .error c := HREL.out
      subst hres
      go_enter_defers Try.func13, Try.ntmps13
      go_wp2_with fail
      obtain ⟨W0, hW0⟩ : ∃ W0, ((w.alloc (.cells #[.pointer none] 23)).alloc (.cells #[.int .i64 0] 25)).alloc (.cells #[.string s, .int .i64 0, .int .i64 0] 58) = W0 := ⟨_, rfl⟩
      rw [hW0] at hW hR hA hB hZ ⊢
      have HZ := Lib.hid hZ
      clear hW0 hZ
      refine ((reader_ok n).2.2.2 (w.heap.size + 2) s 0 0 W0 _ hR (Nat.zero_le _) hz (by omega) HRUN.out).mono ?_
      rintro e w1 ⟨rfl, hk⟩
      have hA1 := hA.kept hk hA.lt (by simp)
      have hB1 := hB.kept hk hB.lt (by simp)
      refine leaves_cons (f := 27) (args := #[.pointer (some ⟨w.heap.size, 0, none⟩), .pointer (some ⟨w.heap.size + 1, 0, none⟩)]) (by simp) (by simp [go_sem]) ?_
      refine (catch_fault ⟨w.heap.size, 0, none⟩ ⟨w.heap.size + 1, 0, none⟩ _ _ c w1 (hA1.cell 0) (hA1.frozen 0) (hB1.cell 0) (hB1.frozen 0) (by simp)).mono ?_
      rintro e u' w'' ⟨rfl, rfl, rfl⟩
      have hA2 := (hA1.set_ 0 (.pointer none)).far (p := ⟨w.heap.size + 1, 0, none⟩) (by simp) (.int .i64 c)
      have hB2 := (hB1.far (p := ⟨w.heap.size, 0, none⟩) (by simp) (.pointer none)).set_ 0 (.int .i64 c)
      have a2 : _ = some (Value.pointer none) := hA2.cell 0
      have b2 : _ = some (Value.int .i64 c) := hB2.cell 0
      refine ⟨.tuple #[.pointer none, .int .i64 c], by simp [results, Try.results13, go_sem, a2, b2], rfl, ?_⟩
      exact ((hW.trans ((hk.mono (B' := w.heap.size) (by have := HZ.out; omega) (fun _ _ h => h)).below (by simp))).setCell (by simp) _).setCell (by simp) _
end Go.Proofs.Ytlmnincllndpnaa
