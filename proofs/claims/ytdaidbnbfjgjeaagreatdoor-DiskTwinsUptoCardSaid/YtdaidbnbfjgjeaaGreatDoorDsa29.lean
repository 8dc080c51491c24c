/- Merged: DskPower, DskListed, DskAlike. -/
import Derived.Test.YtdaidbnbfjgjeaaGreatDoorDsa28
import Derived.Deep.RegionHeldLaw
import Derived.Laws.AppendOwnNone
set_option linter.unusedVariables false
set_option linter.unusedSimpArgs false
/-! ## DskPower -/
/- The walks of layer 3's law: power, arm by arm; twin (printed by gen_lawpower.py). -/
namespace Go.Proofs.YtdaidbnbfjgjeaaGreatDoor
open Go.RowKit Go.Shelf Go.Maps Go.Sort
attribute [local go_sem ↓] Go.wp_at_zero Go.wp_at_succ
attribute [local go_sem] Later.cell Later.frozen

/-- An append whose run is known, at a step of a region that draws. -/
theorem step_known {P : Program} {w w' : World} {ops : Array Oper} {o : Oper} {a : Act} {K : Act → World → Prop} {Q : Exit → Act → World → Prop} {E : Prop} (hgd : o.guard = none) (s x : Operand) (t : TypeId)
    (ho : o.op = .call { callee := .builtin .append, args := #[s, x], argTypes := #[t, t] }) (v u v' : Value) (hs : a.eval s = v) (hx : a.eval x = u)
    (hrun : (Builtin.append_ #[t, t] o.type #[v, u]).run P w = .ok v' w') (h : K (a.put o.dst v') w') :
    if Region.wanted o (yielded ops a.tmps) = true then Oper.wp P o a w K Q else E := by
  have hw : Region.wanted o (yielded ops a.tmps) = true := by simp [Region.wanted, hgd]
  rw [if_pos hw]
  unfold Oper.wp execOp
  simp only [ho, resolve, invoke, builtin, Sem.run_bind, Sem.run_pure, Result.andThen_ok, List.map_toArray, List.map_cons, List.map_nil, hs, hx, hrun]
  exact h
theorem info_int3 : (Tryz.prog.info? 3).map (fun i => (i.zero, i.size, i.bytes)) = some (some (.int .i64 0), 1, 8) := by kernel_rfl
set_option maxRecDepth 100000 in
/-- append([]int(nil), data...). -/
theorem run_ints (Ad : Option Addr) (n c : Nat) (data : List Int) (w : World) (h : Ints3 w Ad n data) (hA : Ad = none → c = 0) (hn : n * 8 ≤ 140737488355328) :
    ∃ A' c' w', (Builtin.append_ #[23, 23] 23 #[.slice none 0 0, .slice Ad n c]).run Tryz.prog w = .ok (.slice A' n c') w' ∧ Ints3 w' A' n data ∧ Below w.heap.size w w' ∧ ∀ x, A' = some x → w.heap.size ≤ x.block := by
  obtain ⟨i0, hi0, hz0, hz1, hz2⟩ := info_parts info_int3
  have hl : data.length = n := Elems.len h
  cases Ad with
  | none =>
    have h0 : n = 0 := by
      rcases Nat.eq_zero_or_pos n with h0 | h0
      · exact h0
      · obtain ⟨b, off, e, _⟩ := h.2 h0; cases e
    subst h0
    obtain rfl := hA rfl
    exact ⟨none, 0, w, run_append_owned_none w w.heap.size 23 23 3 i0 1 Tryz.underlying23 hi0 _ 0 [] (World.ownsRow_nil _ _ _ _), h, Below.refl _ _, fun x e => by cases e⟩
  | some a =>
    have hcells : ∀ j u, (data.map (Value.int .i64))[j]? = some u → w.cell? (a.add j) = some u := by
      intro j u hj
      rw [List.getElem?_map, Option.map_eq_some_iff] at hj
      obtain ⟨x, hx, rfl⟩ := hj
      have hjn : j < n := by have := (List.getElem?_eq_some_iff.1 hx).1; omega
      obtain ⟨b, off, e, hb, hc⟩ := h.2 (by omega)
      have := hc j x hx 0 (.int .i64 x) rfl
      injection e with e
      rw [e]
      have e2 : (⟨b, off, none⟩ : Addr).add j = ⟨b, off + j, none⟩ := by
        unfold Addr.add
        split
        · rename_i h0; subst h0; rfl
        · rfl
      rw [e2]
      simpa using this
    obtain ⟨v', w', h1, h2, h3, h4, h5⟩ := run_append_own_at (P := Tryz.prog) (w := w) w.heap.size 23 23 3 i0 (.int .i64 0) 1 8 Tryz.underlying23 hi0 hz0 hz1 hz2 rfl (by decide) (.slice none 0 0) 0 [] (World.ownsRow_nil _ _ _ _) a n c (data.map (Value.int .i64)) (by rw [List.length_map, hl, Nat.mul_one]) hcells (by intro u hu; obtain ⟨x, _, rfl⟩ := List.mem_map.1 hu; rfl) (by unfold maxLen; omega) (by omega) (Nat.le_refl _)
    rw [Nat.zero_add, List.nil_append] at h2
    obtain ⟨A', c', rfl, hs, hbase, hnc⟩ := Elems.of_own (enc := I1) (xs := data) (fun _ _ => rfl) (flatMap_I1 data) h2 hl
    exact ⟨A', c', w', h1, hs, ⟨h3.os, h3.tape, h3.output, h3.size, fun k hk => h3.block k hk (fun e => by cases e)⟩, hbase⟩
section
variable {M : World → Prop} {N : World → Prop} {k : Nat}
set_option maxRecDepth 100000 in
set_option maxHeartbeats 4000000 in
theorem power_crash (P Q : Value) (A B : ByteArray) (n m : Int) (pa : Option Addr) (pn pc : Nat) (da : Option Addr) (dn dc : Nat) (yes : Bool) (w : World)
    (hC : Calls Tryz.prog 97 #[P, .int .i64 n] ((⟨12, A, B, n, m, pa, pn, pc, da, dn, dc, yes⟩ : OpV).boxed w) fun e w' => e = .returned (.tuple #[]) ∧ M w')
    (hR : ∀ w', M w' → Calls Tryz.prog 98 #[Q, .int .i64 n] w' fun e w'' => e = .returned (.tuple #[]) ∧ N w'')
    (hM : ∀ w', M w' → OpBox w' w.heap.size ⟨12, A, B, n, m, pa, pn, pc, da, dn, dc, yes⟩) :
    Calls Tryz.prog 64 #[P, Q, .agg #[.int .i64 12, .string A, .string B, .int .i64 n, .int .i64 m, .slice pa pn pc, .slice da dn dc, .bool yes]] w fun e w' => e = .returned (.bool true) ∧ N w' := by
  have HC := Lib.hid hC
  have HR := Lib.hid hR
  have HM := Lib.hid (fun w' h => (hM w' h).all)
  have HN := Lib.hid (rfl : w.heap.size = w.heap.size)
  clear hC hR hM
  go_enter Tryz.func64, Tryz.ntmps64
  go_upto_region 1 with fail
  obtain ⟨w1, hw1⟩ : ∃ x, (⟨12, A, B, n, m, pa, pn, pc, da, dn, dc, yes⟩ : OpV).boxed w = x := ⟨_, rfl⟩
  have hall := ((⟨12, A, B, n, m, pa, pn, pc, da, dn, dc, yes⟩ : OpV).box w).all
  rw [hw1] at hall HC
  unfold OpV.boxed OpV.cells at hw1
  rw [hw1]
  obtain ⟨q, hqq⟩ : ∃ q, w.heap.size = q := ⟨_, rfl⟩
  rw [hqq] at hall HM HN ⊢
  have b0 := hall.c0
  have b1 := hall.c1
  have b2 := hall.c2
  have b3 := hall.c3
  have b4 := hall.c4
  have b5 := hall.c5
  have b6 := hall.c6
  have b7 := hall.c7
  clear hall hw1 hqq
  go_wp2_with fail
  refine HC.out.mono ?_
  rintro e w2 ⟨rfl, hm2⟩
  have a3 := (HM.out _ hm2).c3
  go_wp2_with fail
  refine (HR.out _ hm2).mono ?_
  rintro e w3 ⟨rfl, hn3⟩
  go_wp2_with fail
  go_ret
  exact ⟨rfl, hn3⟩
set_option maxRecDepth 100000 in
set_option maxHeartbeats 4000000 in
theorem power_restart (P Q : Value) (A B : ByteArray) (n m : Int) (pa : Option Addr) (pn pc : Nat) (da : Option Addr) (dn dc : Nat) (yes : Bool) (w : World) (w2 : World) (A2 : Option Addr) (n2 c2 : Nat)
    (hT : (Builtin.append_ #[23, 23] 23 #[.slice none 0 0, .slice da dn dc]).run Tryz.prog ((⟨13, A, B, n, m, pa, pn, pc, da, dn, dc, yes⟩ : OpV).boxed w).drew = .ok (.slice A2 n2 c2) w2)
    (h2 : OpBox w2 w.heap.size ⟨13, A, B, n, m, pa, pn, pc, da, dn, dc, yes⟩)
    (hC : Calls Tryz.prog 16 #[P, .int .i64 n, .slice A2 n2 c2, .bool yes] w2 fun e w' => e = .returned (.tuple #[]) ∧ M w')
    (hR : ∀ w', M w' → Calls Tryz.prog 23 #[Q, .int .i64 n, .slice da dn dc, .bool yes] w' fun e w'' => e = .returned (.tuple #[]) ∧ N w'')
    (hM : ∀ w', M w' → OpBox w' w.heap.size ⟨13, A, B, n, m, pa, pn, pc, da, dn, dc, yes⟩) :
    Calls Tryz.prog 64 #[P, Q, .agg #[.int .i64 13, .string A, .string B, .int .i64 n, .int .i64 m, .slice pa pn pc, .slice da dn dc, .bool yes]] w fun e w' => e = .returned (.bool true) ∧ N w' := by
  have HT := Lib.hid hT
  have HC := Lib.hid hC
  have HR := Lib.hid hR
  have HB2 := Lib.hid h2.all
  have HM := Lib.hid (fun w' h => (hM w' h).all)
  have HN := Lib.hid (rfl : w.heap.size = w.heap.size)
  clear hC hR hM hT h2
  go_enter Tryz.func64, Tryz.ntmps64
  go_upto_region 1 with fail
  obtain ⟨w1, hw1⟩ : ∃ x, (⟨13, A, B, n, m, pa, pn, pc, da, dn, dc, yes⟩ : OpV).boxed w = x := ⟨_, rfl⟩
  have hall := ((⟨13, A, B, n, m, pa, pn, pc, da, dn, dc, yes⟩ : OpV).box w).all
  rw [hw1] at hall HT
  unfold OpV.boxed OpV.cells at hw1
  rw [hw1]
  obtain ⟨q, hqq⟩ : ∃ q, w.heap.size = q := ⟨_, rfl⟩
  rw [hqq] at hall HM HN HB2 ⊢
  have b0 := hall.c0
  have b1 := hall.c1
  have b2 := hall.c2
  have b3 := hall.c3
  have b4 := hall.c4
  have b5 := hall.c5
  have b6 := hall.c6
  have b7 := hall.c7
  clear hall hw1 hqq
  go_wp2_with fail
  go_region_held_law (fun w' => w'.cell? ⟨q, 3, none⟩ = some (.int .i64 n) ∧ w'.cell? ⟨q, 6, none⟩ = some (.slice da dn dc) ∧ w'.cell? ⟨q, 7, none⟩ = some (.bool yes)) (first | (exact ⟨(HM.out _ hm2).c3, (HM.out _ hm2).c6, (HM.out _ hm2).c7⟩) | (exact ⟨HB2.out.c3, HB2.out.c6, HB2.out.c7⟩) | go_keep) (first | (refine step_known rfl _ _ _ rfl _ _ _ rfl rfl HT.out ?_) | (go_at_call 16; refine HC.out.mono ?_; rintro e w3 ⟨rfl, hm2⟩))
  have a3 := (HM.out _ hm2).c3
  have a6 := (HM.out _ hm2).c6
  have a7 := (HM.out _ hm2).c7
  go_wp2_with fail
  refine (HR.out _ hm2).mono ?_
  rintro e w4 ⟨rfl, hn4⟩
  go_wp2_with fail
  go_ret
  exact ⟨rfl, hn4⟩
set_option maxRecDepth 100000 in
set_option maxHeartbeats 4000000 in
theorem power_flip {M : Value → World → Prop} (P Q : Value) (A B : ByteArray) (n m : Int) (pa : Option Addr) (pn pc : Nat) (da : Option Addr) (dn dc : Nat) (yes : Bool) (w : World)
    (hC : Calls Tryz.prog 99 #[P, .string A, .int .i64 n, .int .u8 (m % 256)] ((⟨14, A, B, n, m, pa, pn, pc, da, dn, dc, yes⟩ : OpV).boxed w).drew fun e w' => ∃ v, e = .returned v ∧ M v w')
    (hK : ∀ v w', M v w' → Calls Tryz.prog 48 #[v, .string ⟨#[102, 108, 105, 112]⟩, .string A] w' fun e w'' => e = .returned (.int .i64 (k : Int)) ∧ w' = w'')
    (hR : ∀ v w', M v w' → Calls Tryz.prog 100 #[Q, .string A, .int .i64 n, .int .u8 (m % 256)] w' fun e w'' => e = .returned (.int .i64 (k : Int)) ∧ N w'')
    (hM : ∀ v w', M v w' → OpBox w' w.heap.size ⟨14, A, B, n, m, pa, pn, pc, da, dn, dc, yes⟩) (hN : ∀ w', N w' → OpBox w' w.heap.size ⟨14, A, B, n, m, pa, pn, pc, da, dn, dc, yes⟩) :
    Calls Tryz.prog 64 #[P, Q, .agg #[.int .i64 14, .string A, .string B, .int .i64 n, .int .i64 m, .slice pa pn pc, .slice da dn dc, .bool yes]] w fun e w' => e = .returned (.bool true) ∧ N w' := by
  have HC := Lib.hid hC
  have HK := Lib.hid hK
  have HR := Lib.hid hR
  have HM := Lib.hid (fun v w' h => (hM v w' h).all)
  have HN := Lib.hid (fun w' h => (hN w' h).all)
  clear hC hK hR hM hN
  go_enter Tryz.func64, Tryz.ntmps64
  go_upto_region 1 with fail
  obtain ⟨w1, hw1⟩ : ∃ x, (⟨14, A, B, n, m, pa, pn, pc, da, dn, dc, yes⟩ : OpV).boxed w = x := ⟨_, rfl⟩
  have hall := ((⟨14, A, B, n, m, pa, pn, pc, da, dn, dc, yes⟩ : OpV).box w).all
  rw [hw1] at hall HC
  unfold OpV.boxed OpV.cells at hw1
  rw [hw1]
  obtain ⟨q, hqq⟩ : ∃ q, w.heap.size = q := ⟨_, rfl⟩
  rw [hqq] at hall HM HN ⊢
  have b0 := hall.c0
  have b1 := hall.c1
  have b2 := hall.c2
  have b3 := hall.c3
  have b4 := hall.c4
  have b5 := hall.c5
  have b6 := hall.c6
  have b7 := hall.c7
  clear hall hw1 hqq
  go_wp2_with fail
  go_region_held3 (fun w' => w'.cell? ⟨q, 1, none⟩ = some (.string A) ∧ w'.cell? ⟨q, 3, none⟩ = some (.int .i64 n) ∧ w'.cell? ⟨q, 4, none⟩ = some (.int .i64 m)) (first | (exact ⟨(HN.out _ hn4).c1, (HN.out _ hn4).c3, (HN.out _ hn4).c4⟩) | (exact ⟨(HM.out _ _ hm2).c1, (HM.out _ _ hm2).c3, (HM.out _ _ hm2).c4⟩) | go_keep) (first | (go_at_call 99; refine HC.out.mono ?_; rintro e w2 ⟨v2, rfl, hm2⟩) | (go_at_call 48; refine (HK.out _ _ hm2).mono ?_; rintro e w3 ⟨rfl, rfl⟩) | (go_at_call 100; refine (HR.out _ _ hm2).mono ?_; rintro e w4 ⟨rfl, hn4⟩))
  go_wp2_with fail
  go_ret
  exact ⟨rfl, hn4⟩
set_option maxRecDepth 100000 in
set_option maxHeartbeats 4000000 in
theorem power_none (K : Int) (hK : K < 12 ∨ 14 < K) (P Q : Value) (A B : ByteArray) (n m : Int) (pa : Option Addr) (pn pc : Nat) (da : Option Addr) (dn dc : Nat) (yes : Bool) (w : World) :
    Calls Tryz.prog 64 #[P, Q, .agg #[.int .i64 K, .string A, .string B, .int .i64 n, .int .i64 m, .slice pa pn pc, .slice da dn dc, .bool yes]] w fun e w' => e = .returned (.bool true) ∧ w' = (⟨K, A, B, n, m, pa, pn, pc, da, dn, dc, yes⟩ : OpV).boxed w := by
  have HM := Lib.hid (rfl : w.heap.size = w.heap.size)
  have HN := Lib.hid (rfl : w.heap.size = w.heap.size)
  have HC := Lib.hid (rfl : (⟨K, A, B, n, m, pa, pn, pc, da, dn, dc, yes⟩ : OpV).boxed w = (⟨K, A, B, n, m, pa, pn, pc, da, dn, dc, yes⟩ : OpV).boxed w)
  have e12 : decide (K = 12) = false := decide_eq_false (by omega)
  have g12 : (K == 12) = false := beq_eq_false_iff_ne.2 (by omega)
  have n12 : K ≠ 12 := by omega
  have e13 : decide (K = 13) = false := decide_eq_false (by omega)
  have g13 : (K == 13) = false := beq_eq_false_iff_ne.2 (by omega)
  have n13 : K ≠ 13 := by omega
  have e14 : decide (K = 14) = false := decide_eq_false (by omega)
  have g14 : (K == 14) = false := beq_eq_false_iff_ne.2 (by omega)
  have n14 : K ≠ 14 := by omega
  clear hK
  go_enter Tryz.func64, Tryz.ntmps64
  go_upto_region 1 with fail
  obtain ⟨w1, hw1⟩ : ∃ x, (⟨K, A, B, n, m, pa, pn, pc, da, dn, dc, yes⟩ : OpV).boxed w = x := ⟨_, rfl⟩
  have hall := ((⟨K, A, B, n, m, pa, pn, pc, da, dn, dc, yes⟩ : OpV).box w).all
  have HWW := Lib.hid hw1
  rw [hw1] at hall
  unfold OpV.boxed OpV.cells at hw1
  rw [hw1]
  obtain ⟨q, hqq⟩ : ∃ q, w.heap.size = q := ⟨_, rfl⟩
  rw [hqq] at hall HM HN ⊢
  have b0 := hall.c0
  have b1 := hall.c1
  have b2 := hall.c2
  have b3 := hall.c3
  have b4 := hall.c4
  have b5 := hall.c5
  have b6 := hall.c6
  have b7 := hall.c7
  clear hall hw1 hqq
  go_wp2_with fail
  go_ret
  exact ⟨rfl, HWW.out.symm⟩
end
end Go.Proofs.YtdaidbnbfjgjeaaGreatDoor

/-! ## DskListed -/
/- The walks of layer 3's law: twin, listed. -/
namespace Go.Proofs.YtdaidbnbfjgjeaaGreatDoor
open Go.RowKit Go.Shelf Go.Maps Go.Sort
attribute [local go_sem ↓] Go.wp_at_zero Go.wp_at_succ
attribute [local go_sem] Later.cell Later.frozen

theorem info_string3 : (Tryz.prog.info? 9).map (fun i => (i.zero, i.size, i.bytes)) = some (some (.string ⟨#[]⟩), 1, 16) := by kernel_rfl
def TwinOut3 (w : World) (l : List Txt) (e : Ending) (w' : World) : Prop :=
  ∃ A c, e = .returned (.slice A l.length c) ∧ Strs w' A l.length l ∧ l.length ≤ c ∧ Below w.heap.size w w'
set_option maxRecDepth 100000 in
set_option maxHeartbeats 400000 in
theorem twin3_calls (l : List Txt) (A : Option Addr) (n c : Nat) (w : World) (h : Strs w A n l) (hA : A = none → c = 0) (hn : n * 16 ≤ 140737488351232) :
    Calls Tryz.prog 51 #[.slice A n c] w (TwinOut3 w l) := by
  obtain ⟨i0, hi0, hz0, hz1, hz2⟩ := info_parts info_string3
  have hl := h.len
  cases A with
  | none =>
    have h0 : n = 0 := by
      rcases Nat.eq_zero_or_pos n with h0 | h0
      · exact h0
      · obtain ⟨b, off, e, _⟩ := h.2 h0; cases e
    subst h0
    obtain rfl := hA rfl
    obtain rfl : l = [] := List.eq_nil_of_length_eq_zero hl
    clear hl hA
    go_enter Tryz.func51, Tryz.ntmps51
    go_wp2_with (at_builtin; refine wpList_append_own_none rfl _ _ 22 rfl w.heap.size 9 i0 1 Tryz.underlying22 hi0 _ _ _ rfl (World.ownsRow_nil _ _ _ _) rfl ?_)
    go_ret
    exact ⟨none, 0, rfl, Strs.nil, Nat.le_refl _, Below.refl _ _⟩
  | some a =>
    have hcells := h.cells
    have HC := Lib.hid hcells
    have HL := Lib.hid hl
    have HA := Lib.hid hA
    clear hl hcells hA
    go_enter Tryz.func51, Tryz.ntmps51
    go_wp2_with (at_builtin; refine wpList_append_own_at _ rfl _ _ 22 rfl w.heap.size 9 i0 (.string ⟨#[]⟩) 1 16 Tryz.underlying22 hi0 hz0 hz1 hz2 rfl (by decide) _ _ _ rfl (World.ownsRow_nil _ _ _ _) a n c (l.map txtV) rfl ?c0 ?c1 ?c2 ?c3 ?c4 ?c5 ?_)
    case c0 => rw [List.length_map, HL.out, Nat.mul_one]
    case c1 => exact HC.out
    case c2 => exact txtV_one l
    case c3 => unfold maxLen; omega
    case c4 => omega
    case c5 => exact Nat.le_refl _
    intro v' w1 hown0 hgrow hx hat
    have hown : w1.ownsRow w.heap.size 9 1 v' n (l.map txtV) := by simpa using hown0
    clear hown0
    have hb : Below w.heap.size w w1 := ⟨hgrow.os, hgrow.tape, hgrow.output, hgrow.size, fun k hk => hgrow.block k hk (fun e => by cases e)⟩
    obtain ⟨A', c', rfl, hs, hbase, hnc⟩ := Strs.of_own hown HL.out
    have hn' := HL.out
    subst hn'
    have HB := Lib.hid hb
    have HS := Lib.hid hs
    have HNC := Lib.hid hnc
    clear hown hgrow hx hat hb hs hbase hnc
    go_wp2_with fail
    go_ret
    exact ⟨A', c', rfl, HS.out, HNC.out, HB.out⟩

theorem ents_at {w : World} {A : Option Addr} {n : Nat} {l : List En} (h : Elems w w.heap.size 3 encE A n l) {i : Nat} (hi : i < n) : ∃ b off, A = some ⟨b, off, none⟩ ∧ b < w.heap.size ∧ w.cell? ⟨b, off + i * 3, none⟩ = some (txtV l[i]!.name) ∧ w.cell? ⟨b, off + i * 3 + 1, none⟩ = some (.bool l[i]!.dir) ∧ w.cell? ⟨b, off + i * 3 + 2, none⟩ = some (.int .i64 (l[i]!.size : Int)) := by
  obtain ⟨b, off, e, hb, hc⟩ := h.2 (by omega)
  have hl : i < l.length := by have : l.length = n := Elems.len h; omega
  have hx := hc i l[i]! (by rw [getElem!_pos l i hl, List.getElem?_eq_getElem hl])
  exact ⟨b, off, e, hb, by simpa using hx 0 _ rfl, by simpa using hx 1 _ rfl, by simpa using hx 2 _ rfl⟩
theorem EntRow.out {w : World} {B : Nat} {v : Value} {l : List En} (h : EntRow w B v l) : ∃ A c, v = .slice A l.length c ∧ Elems w w.heap.size 3 encE A l.length l ∧ l.length ≤ c := by
  obtain ⟨A, c, h1, h2, _, h4⟩ := Elems.of_own (enc := encE) (xs := l) (fun _ _ => rfl) rfl h rfl
  exact ⟨A, c, h1, h2, h4⟩
theorem EnRow.out {w : World} {B : Nat} {v : Value} {l : List En} (h : EnRow w B v l) : ∃ A c, v = .slice A l.length c ∧ Elems w w.heap.size 3 encE A l.length l ∧ l.length ≤ c := by
  obtain ⟨A, c, h1, h2, _, h4⟩ := Elems.of_own (enc := encE) (xs := l) (fun _ _ => rfl) rfl h rfl
  exact ⟨A, c, h1, h2, h4⟩

section
variable {M : Value → Value → World → Prop} {N : Value → Value → Value → World → Prop} {k : Nat}
set_option maxRecDepth 100000 in
set_option maxHeartbeats 4000000 in
theorem listed_ok (P Q : Value) (S : ByteArray) (w : World) (l : List En) (hl : l.length ≤ 1073741824)
    (hC : Calls Tryz.prog 18 #[P, .string S] w fun e w' => ∃ v u, e = .returned (.tuple #[v, u]) ∧ M v u w')
    (hR : ∀ v u w', M v u w' → Calls Tryz.prog 25 #[Q, .string S] w' fun e w'' => ∃ v2, e = .returned (.tuple #[v2, .int .i64 (k : Int)]) ∧ N v u v2 w'')
    (hK : ∀ v u v2 w', N v u v2 w' → Calls Tryz.prog 48 #[u, .string ⟨#[108, 105, 115, 116]⟩, .string S] w' fun e w'' => e = .returned (.int .i64 (k : Int)) ∧ w' = w'')
    (hE : ∀ v u v2 w', N v u v2 w' → (∃ A c, v = .slice A l.length c ∧ Elems w' w'.heap.size 3 encE A l.length l ∧ l.length ≤ c) ∧ ∃ A c, v2 = .slice A l.length c ∧ Elems w' w'.heap.size 3 encE A l.length l ∧ l.length ≤ c) :
    Calls Tryz.prog 26 #[P, Q, .string S] w fun e w' => e = .returned (.bool true) ∧ ∃ v u v2 w'', N v u v2 w'' ∧ Below w''.heap.size w'' w' := by
  have HC := Lib.hid hC
  have HR := Lib.hid hR
  have HK := Lib.hid hK
  have HE := Lib.hid hE
  clear hC hR hK hE
  go_enter Tryz.func26, Tryz.ntmps26
  go_wp2_with fail
  refine HC.out.mono ?_
  rintro e w2 ⟨v, u, rfl, hm⟩
  go_wp2_with fail
  refine (HR.out _ _ _ hm).mono ?_
  rintro e w3 ⟨v2, rfl, hn⟩
  obtain ⟨⟨X, c, rfl, hx, hc⟩, Y, c', rfl, hy, hc'⟩ := HE.out _ _ _ _ hn
  obtain ⟨n, hnl⟩ : ∃ n, l.length = n := ⟨_, rfl⟩
  rw [hnl] at hx hy hc hc' hn hl ⊢
  have HX := Lib.hid hx
  have HY := Lib.hid hy
  clear hx hy hnl
  go_wp2_with fail
  refine (HK.out _ _ _ _ hn).mono ?_
  rintro e w4 ⟨rfl, rfl⟩
  go_wp2_with fail
  go_loopg [38] n (fun g s38 wr => ∃ i : Nat, i + g = n ∧ s38 = .int .i64 (i : Int) ∧ Below w3.heap.size w3 wr)
  case atStart => exact ⟨0, by omega, rfl, Below.refl _ _⟩
  case round =>
    obtain ⟨i, hig, rfl, hB⟩ := hrel
    have HIG := Lib.hid hig
    have HB := Lib.hid hB
    clear hig
    by_cases hi : i < n
    · have el : decide ((i : Int) < (n : Int)) = true := by simp; omega
      have el' : decide (i < n) = true := by simp; omega
      have hiin : (i : Int) < (n : Int) := by omega
      obtain ⟨b, off, hXe, hbl, x0, x1, x2⟩ := ents_at HX.out hi
      obtain ⟨b', off', hYe, hbl', y0, y1, y2⟩ := ents_at HY.out hi
      have x0 := (hB.cell (p := ⟨b, off + i * 3, none⟩) hbl).trans x0
      have x1 := (hB.cell (p := ⟨b, off + i * 3 + 1, none⟩) hbl).trans x1
      have x2 := (hB.cell (p := ⟨b, off + i * 3 + 2, none⟩) hbl).trans x2
      have y0 := (hB.cell (p := ⟨b', off' + i * 3, none⟩) hbl').trans y0
      have y1 := (hB.cell (p := ⟨b', off' + i * 3 + 1, none⟩) hbl').trans y1
      have y2 := (hB.cell (p := ⟨b', off' + i * 3 + 2, none⟩) hbl').trans y2
      obtain ⟨T, hT⟩ : ∃ T : ByteArray, (⟨l[i]!.name.toArray⟩ : ByteArray) = T := ⟨_, rfl⟩
      obtain ⟨D, hD⟩ : ∃ D, l[i]!.dir = D := ⟨_, rfl⟩
      obtain ⟨Z, hZ⟩ : ∃ Z : Int, (l[i]!.size : Int) = Z := ⟨_, rfl⟩
      unfold txtV at x0 y0
      rw [hT] at x0 y0
      rw [hD] at x1 y1
      rw [hZ] at x2 y2
      obtain ⟨q1, q2⟩ := eq_facts T
      clear hT hD hZ hB
      subst hXe hYe
      have hbr : b < wr.heap.size := lt_of_cell x0
      have hbr' : b' < wr.heap.size := lt_of_cell y0
      go_upto_region 8 with fail
      refine wp_region_later (by kernel_rfl) (by kernel_rfl) ?_
      repeat (go_big_quiet_step (fail))
      refine wpQuiet_nil ?_
      rintro w7 ⟨⟨_, hb7⟩, rfl⟩
      have hB7 := then_ HB.out hb7
      have HB7 := Lib.hid hB7
      clear hb7 hB7
      go_wp2_with fail
      go_roundg (gk - 1)
      case measure => have := HIG.out; omega
      case rel => exact ⟨i + 1, by have := HIG.out; omega, by go_num, HB7.out⟩
    · have el : decide ((i : Int) < (n : Int)) = false := by simp; omega
      have el' : decide (i < n) = false := by simp; omega
      go_wp2_with fail
      go_ret
      exact ⟨rfl, _, _, _, w3, hn, HB.out⟩
end
end Go.Proofs.YtdaidbnbfjgjeaaGreatDoor

/-! ## DskAlike -/
/- The walks of layer 3's law: alike. -/
namespace Go.Proofs.YtdaidbnbfjgjeaaGreatDoor
open Go.RowKit Go.Shelf Go.Maps Go.Sort
attribute [local go_sem ↓] Go.wp_at_zero Go.wp_at_succ
attribute [local go_sem] Later.cell Later.frozen

set_option maxRecDepth 100000 in
set_option maxHeartbeats 4000000 in
theorem alike_ok (P : Value) (q : Nat) (w : World) (things : List Th) (U : Int) (o : Bool) (X : Option Addr) (n c : Nat)
    (c0 : w.cell? ⟨q, 0, none⟩ = some (.slice X n c)) (c5 : w.cell? ⟨q, 5, none⟩ = some (.bool o)) (hX : Ths w X n things) (hn : n ≤ 1073741824)
    (hU : ∀ x, Below w.heap.size w x → Calls Tryz.prog 24 #[P] x fun e w' => e = .returned (.int .i64 U) ∧ Below x.heap.size x w')
    (hV : ∀ x, Below w.heap.size w x → Calls Tryz.prog 65 #[.pointer (some ⟨q, 0, none⟩)] x fun e w' => e = .returned (.int .i64 U) ∧ Below x.heap.size x w')
    (hO : ∀ x, Below w.heap.size w x → Calls Tryz.prog 19 #[P] x fun e w' => e = .returned (.bool o) ∧ Below x.heap.size x w')
    (hL : ∀ (S : ByteArray) x, Below w.heap.size w x → (S = ⟨#[]⟩ ∨ ∃ y ∈ things, y.dir = true ∧ y.path = S.data.toList) → Calls Tryz.prog 26 #[P, .pointer (some ⟨q, 0, none⟩), .string S] x fun e w' => e = .returned (.bool true) ∧ Below x.heap.size x w')
    (hA : ∀ (S : ByteArray) x, Below w.heap.size w x → (∃ y ∈ things, y.dir = false ∧ y.path = S.data.toList) → Calls Tryz.prog 21 #[P, .pointer (some ⟨q, 0, none⟩), .agg #[.int .i64 10, .string S, .string ⟨#[]⟩, .int .i64 0, .int .i64 0, .slice none 0 0, .slice none 0 0, .bool false]] x fun e w' => e = .returned (.bool true) ∧ Below x.heap.size x w') :
    Calls Tryz.prog 22 #[P, .pointer (some ⟨q, 0, none⟩)] w fun e w' => e = .returned (.bool true) ∧ Below w.heap.size w w' := by
  have hl : things.length = n := Elems.len hX
  have hql : q < w.heap.size := lt_of_cell c0
  have HX := Lib.hid hX
  have HN := Lib.hid hl
  have HU := Lib.hid hU
  have HV := Lib.hid hV
  have HO := Lib.hid hO
  have HL := Lib.hid hL
  have HA := Lib.hid hA
  clear hX hl hU hV hO hL hA
  go_enter Tryz.func22, Tryz.ntmps22
  go_wp2_with fail
  refine wp_region_later (by kernel_rfl) (by kernel_rfl) ?_
  repeat (go_big_quiet_step (first | (go_at_call 24; exact quiet_later _ (HU.out _ (Later.h _))) | (go_at_call 65; exact quiet_later _ (HV.out _ (Later.h _))) | (go_at_call 19; exact quiet_later _ (HO.out _ (Later.h _))) | (go_at_call 26; exact quiet_later _ (HL.out _ _ (Later.h _) (.inl rfl)))))
  refine wpQuiet_nil ?_
  rintro w1 ⟨⟨_, hb1⟩, rfl⟩
  have c0' := (hb1.cell (p := ⟨q, 0, none⟩) hql).trans c0
  have HB1 := Lib.hid hb1
  clear hb1
  go_wp2_with fail
  go_loopg [32] n (fun g s32 wr => ∃ i : Nat, i + g = n ∧ s32 = .int .i64 (i : Int) ∧ Below w.heap.size w wr)
  case atStart => exact ⟨0, by omega, rfl, HB1.out⟩
  case round =>
    obtain ⟨i, hig, rfl, hB⟩ := hrel
    have HIG := Lib.hid hig
    have HB := Lib.hid hB
    clear hig
    by_cases hi : i < n
    · have el : decide ((i : Int) < (n : Int)) = true := by simp; omega
      have el' : decide (i < n) = true := by simp; omega
      have hiin : (i : Int) < (n : Int) := by omega
      obtain ⟨b, off, hXe, hbl, x0, x1, x2⟩ := HX.out.at_ hi
      have x0 := (hB.cell (p := ⟨b, off + i * 3, none⟩) hbl).trans x0
      have x1 := (hB.cell (p := ⟨b, off + i * 3 + 1, none⟩) hbl).trans x1
      have x2 := (hB.cell (p := ⟨b, off + i * 3 + 2, none⟩) hbl).trans x2
      have hmem : things[i]! ∈ things := by rw [getElem!_pos things i (by rw [HN.out]; exact hi)]; exact List.getElem_mem _
      obtain ⟨y, hy⟩ : ∃ y, things[i]! = y := ⟨_, rfl⟩
      rw [hy] at x0 x1 x2 hmem
      obtain ⟨T, hT⟩ : ∃ T : ByteArray, (⟨y.path.toArray⟩ : ByteArray) = T := ⟨_, rfl⟩
      have hTp : y.path = T.data.toList := by rw [← hT]
      obtain ⟨D, hD⟩ : ∃ D, y.dir = D := ⟨_, rfl⟩
      obtain ⟨Z, hZ⟩ : ∃ Z : Int, (y.at_ : Int) = Z := ⟨_, rfl⟩
      unfold txtV at x0
      rw [hT] at x0
      rw [hD] at x1
      rw [hZ] at x2
      have hfact : ∃ y ∈ things, y.dir = D ∧ y.path = T.data.toList := ⟨y, hmem, hD, hTp⟩
      have HF := Lib.hid hfact
      subst hXe
      clear hT hD hZ hB hy hmem hTp hfact
      have hbr : b < wr.heap.size := lt_of_cell x0
      cases D with
      | true =>
        go_upto_region 6 with fail
        obtain ⟨w2, hw2⟩ : ∃ x, wr.alloc (.cells #[.string T, .bool true, .int .i64 Z] 112) = x := ⟨_, rfl⟩
        have hb2 : Below w.heap.size w w2 := by rw [← hw2]; exact HB.out.alloc (HB.out.size) _
        have hk2 : Blk w2 wr.heap.size 112 #[.string T, .bool true, .int .i64 Z] := by rw [← hw2]; exact Blk.new _ _ _
        rw [hw2]
        obtain ⟨r, hr⟩ : ∃ r, wr.heap.size = r := ⟨_, rfl⟩
        rw [hr] at hk2 ⊢
        have k0 : _ = some (Value.string T) := hk2.cell 0
        have k1 : _ = some (Value.bool true) := hk2.cell 1
        have hk2l := hk2.lt
        have HB2 := Lib.hid hb2
        have HK2 := Lib.hid hk2
        clear hw2 hr hb2 hk2
        go_wp2_with fail
        refine (HL.out T w2 HB2.out (.inr HF.out)).mono ?_
        rintro e w3 ⟨rfl, hb3⟩
        have m1 : _ = some (Value.bool true) := (HK2.out.below hb3 HK2.out.lt).cell 1
        have HB3 := Lib.hid (then_ HB2.out hb3)
        clear k0 k1 hb3 hk2l
        go_wp2_with fail
        go_roundg (gk - 1)
        case measure => have := HIG.out; omega
        case rel => exact ⟨i + 1, by have := HIG.out; omega, by go_num, HB3.out⟩
      | false =>
        go_upto_region 6 with fail
        obtain ⟨w2, hw2⟩ : ∃ x, wr.alloc (.cells #[.string T, .bool false, .int .i64 Z] 112) = x := ⟨_, rfl⟩
        have hb2 : Below w.heap.size w w2 := by rw [← hw2]; exact HB.out.alloc (HB.out.size) _
        have hk2 : Blk w2 wr.heap.size 112 #[.string T, .bool false, .int .i64 Z] := by rw [← hw2]; exact Blk.new _ _ _
        rw [hw2]
        obtain ⟨r, hr⟩ : ∃ r, wr.heap.size = r := ⟨_, rfl⟩
        rw [hr] at hk2 ⊢
        have k0 : _ = some (Value.string T) := hk2.cell 0
        have k1 : _ = some (Value.bool false) := hk2.cell 1
        have hk2l := hk2.lt
        have HB2 := Lib.hid hb2
        have HK2 := Lib.hid hk2
        clear hw2 hr hb2 hk2
        go_wp2_with fail
        refine (HA.out T w2 HB2.out HF.out).mono ?_
        rintro e w3 ⟨rfl, hb3⟩
        have HB3 := Lib.hid (then_ HB2.out hb3)
        clear k0 k1 hb3 hk2l
        go_wp2_with fail
        go_roundg (gk - 1)
        case measure => have := HIG.out; omega
        case rel => exact ⟨i + 1, by have := HIG.out; omega, by go_num, HB3.out⟩
    · have el : decide ((i : Int) < (n : Int)) = false := by simp; omega
      have el' : decide (i < n) = false := by simp; omega
      go_wp2_with fail
      go_ret
      exact ⟨rfl, HB.out⟩
end Go.Proofs.YtdaidbnbfjgjeaaGreatDoor
