/- Layer 3's laws: DiskAgain. -/
import Derived.Test.YtdaidbnbfjgjeaaGreatDoorDsa32
set_option linter.unusedVariables false
set_option linter.unusedSimpArgs false
namespace Go.Proofs.YtdaidbnbfjgjeaaGreatDoor
open Go.RowKit Go.Shelf Go.Maps Go.Sort
attribute [local go_sem ↓] Go.wp_at_zero Go.wp_at_succ
attribute [local go_sem] Later.cell Later.frozen

/-! ### the plain law: a restart behind a restart changes nothing -/
def PlainF (f : By) : Prop := f.steps = [] ∧ f.safe = f.now
theorem keepF_still {f : By} (h : PlainF f) (wish : Int) (z : Bool) : keepF f wish z = f := by
  obtain ⟨now, safe, steps⟩ := f
  obtain ⟨h1, h2⟩ := h
  dsimp only at h1 h2
  subst h1 h2
  unfold keepF
  simp [units, keepL]
theorem keepF_is (f : By) (wish : Int) (z : Bool) : PlainF (keepF f wish z) := ⟨rfl, rfl⟩
theorem plain_default : PlainF (default : By) := ⟨rfl, rfl⟩
theorem set_same (fs : List By) (k : Nat) : fs.set k (fs[k]?.getD default) = fs := by
  apply List.ext_getElem?
  intro j
  rw [List.getElem?_set]
  split
  · rename_i e
    subst e
    split
    · rename_i hlt; rw [List.getElem?_eq_getElem hlt]; rfl
    · rename_i hlt; rw [List.getElem?_eq_none (by omega)]
  · rfl
theorem keepAll_id (data : List Int) (z : Bool) : ∀ (L : List En) (i : Nat) (fs : List By), (∀ x ∈ L, PlainF (fs[x.size]?.getD default)) → keepAll data z L i fs = fs
  | [], _, _, _ => rfl
  | x :: r, i, fs, h => by
    unfold keepAll
    rw [keepF_still (h x (List.mem_cons_self ..)), set_same]
    exact keepAll_id data z r (i + 1) fs fun y hy => h y (List.mem_cons_of_mem _ hy)
theorem plain_set {fs : List By} {k j : Nat} {f : By} (hf : PlainF f) (h : PlainF (fs[j]?.getD default)) : PlainF ((fs.set k f)[j]?.getD default) := by
  rw [List.getElem?_set]
  split
  · split
    · exact hf
    · exact plain_default
  · exact h
theorem keepAll_keeps (data : List Int) (z : Bool) (j : Nat) : ∀ (L : List En) (i : Nat) (fs : List By), PlainF (fs[j]?.getD default) → PlainF ((keepAll data z L i fs)[j]?.getD default)
  | [], _, _, h => h
  | x :: r, i, fs, h => by
    unfold keepAll
    exact keepAll_keeps data z j r (i + 1) _ (plain_set (keepF_is _ _ _) h)
theorem keepAll_plain (data : List Int) (z : Bool) : ∀ (L : List En) (i : Nat) (fs : List By), ∀ x ∈ L, PlainF ((keepAll data z L i fs)[x.size]?.getD default)
  | [], _, _, x, h => by cases h
  | y :: r, i, fs, x, h => by
    unfold keepAll
    rcases List.mem_cons.1 h with rfl | h
    · refine keepAll_keeps data z x.size r (i + 1) _ ?_
      rw [List.getElem?_set]
      split
      · split
        · exact keepF_is _ _ _
        · exact plain_default
      · rename_i h; exact absurd rfl h
    · exact keepAll_plain data z r (i + 1) _ x h
theorem restart_again (d : Ds) (n n' : Int) (data data' : List Int) (z z' : Bool) : restartD (restartD d n data z) n' data' z' = restartD d n data z := by
  unfold restartD
  simp only [List.length_nil, List.take_nil, List.foldl_nil]
  rw [keepAll_id]
  exact keepAll_plain data z _ 0 d.files

/-- An append whose run is known, in a plain region. -/
theorem wpList_known {P : Program} {w w' : World} {ops : Array Oper} {rest : List Oper} {o : Oper} {a : Act} {Q : Exit → Act → World → Prop} (hgd : o.guard = none) (s x : Operand) (t : TypeId)
    (ho : o.op = .call { callee := .builtin .append, args := #[s, x], argTypes := #[t, t] }) (v u v' : Value) (hs : a.eval s = v) (hx : a.eval x = u)
    (hrun : (Builtin.append_ #[t, t] o.type #[v, u]).run P w = .ok v' w') (h : wpList P ops Q rest (a.put o.dst v') w') : wpList P ops Q (o :: rest) a w := by
  refine wpList_plain hgd fun K hK => ?_
  unfold Oper.wp execOp
  simp only [ho, resolve, invoke, builtin, Sem.run_bind, Sem.run_pure, Result.andThen_ok, List.map_toArray, List.map_cons, List.map_nil, hs, hx, hrun]
  exact hK _ _ h

/-- The code's restart alone is over. -/
structure RunC (M : Nat) (W w : World) (p q : Nat) (d d' : Ds) : Prop where
  ex : ∃ R S A B, CD W.heap.size w R A d' ∧ RD W.heap.size w S B d ∧ (∀ k, R k ≠ 0 → S k = 0) ∧ A.p = p ∧ B.q = q
  wf : WF M d
  below : Below W.heap.size W w
section
variable {a : Nat → Addr} {M : Nat} {W w w' : World} {p q : Nat} {d d' : Ds} {nst : Int} {data : List Int} {z : Bool}
theorem Run.restartC (h : Run M W w p q d) (hM : M ≤ 536870912) (nst : Int) (Ad : Option Addr) (nd cd : Nat) (data : List Int) (z : Bool) (hn1 : -9223372036854775808 ≤ nst) (hn2 : nst ≤ 9223372036854775807) (w1 : World) (hb1 : Below w.heap.size w w1) (hdat : Ints3 w1 Ad nd data) (hdr : ∀ a, Ad = some a → 0 < nd → w.heap.size ≤ a.block)
    (hdb : ∀ x ∈ data, -9223372036854775808 ≤ x ∧ x ≤ 9223372036854775807) (hnd : nd ≤ 140737488355328) :
    Calls Tryz.prog 16 #[.pointer (some ⟨p, 0, none⟩), .int .i64 nst, .slice Ad nd cd, .bool z] w1 fun x w' => x = .returned (.tuple #[]) ∧ RunC M W w' p q d (restartD d nst data z) := by
  obtain ⟨R, S, A, B, h1, rfl, rfl⟩ := h.ex
  have h2 := h1.below hb1
  have hb2 : Below W.heap.size W w1 := h.below.trans (hb1.mono h.below.size)
  refine (restart_calls nst Ad nd cd data z w1 h2.c h.wf hM hb2.size hn1 hn2 hdat (fun x hx h0 => h1.c.inw.new (hdr x hx h0)) hdb hnd).mono ?_
  rintro x w2 ⟨R', A', rfl, k1, k2, k3⟩
  refine ⟨rfl, ⟨R', S, A', B, k1, h2.r.apart k2 h2.dis', fun k hk => ?_, k3, rfl⟩, h.wf, hb2.trans (k2.below hb2.size h2.c.low)⟩
  rcases Nat.lt_or_ge k w1.heap.size with hlt | hge
  · rw [k2.old k hlt] at hk; exact h2.dis k hk
  · exact h2.r.inw.new hge
theorem RunC.restart (h : RunC M W w p q d (restartD d nst data z)) (hM : M ≤ 536870912) (Ad : Option Addr) (nd cd : Nat) (hn1 : -9223372036854775808 ≤ nst) (hn2 : nst ≤ 9223372036854775807) (hdat : Ints3 W Ad nd data)
    (hdb : ∀ x ∈ data, -9223372036854775808 ≤ x ∧ x ≤ 9223372036854775807) (hnd : nd ≤ 140737488355328) :
    Calls Tryz.prog 23 #[.pointer (some ⟨q, 0, none⟩), .int .i64 nst, .slice Ad nd cd, .bool z] w fun x w' => x = .returned (.tuple #[]) ∧ Run (M + 1) W w' p q (restartD d nst data z) := by
  obtain ⟨R, S, A, B, h1, h2, h3, rfl, rfl⟩ := h.ex
  have hlow : ∀ a, Ad = some a → 0 < nd → S a.block = 0 := by
    intro x hx h0
    obtain ⟨b, off, e, hb, _⟩ := hdat.2 h0
    rw [hx] at e
    injection e with e
    subst e
    exact h2.low _ hb
  have hd2 : Ints w Ad nd data := (Elems.below hdat h.below).more h.below.size
  refine (rrestart_calls nst Ad nd cd data z w h2 h.wf hM h.below.size hn1 hn2 hd2 hlow hdb hnd).mono ?_
  rintro x w2 ⟨S', B', rfl, k1, k2, k3⟩
  refine ⟨rfl, ⟨R, S', A, B', ⟨h1.apart k2 h3, k1, fun k hk => ?_⟩, rfl, k3⟩, h.wf.restart _ _ _, h.below.trans (k2.below h.below.size h2.low)⟩
  rw [k2.old k (h1.inw k hk)]
  exact h3 k hk
theorem RunC.same (h : RunC M W w p q d d') (e : d' = d) : Run M W w p q d := by
  subst e
  obtain ⟨R, S, A, B, h1, h2, h3, h4, h5⟩ := h.ex
  exact ⟨⟨R, S, A, B, ⟨h1, h2, h3⟩, h4, h5⟩, h.wf, h.below⟩
end
set_option maxRecDepth 100000 in
set_option maxHeartbeats 8000000 in
theorem again_calls {a : Nat → Addr} (X : Option Addr) (n c : Nat) (names : Int) (Ad : Option Addr) (nd cd : Nat) (data : List Int) (l : List OpE) (W : World) (hst : Start a W) (hs : ScriptM W X n l) (hn1 : -9223372036854775808 ≤ names) (hn2 : names ≤ 9223372036854775807) (hL : costs l ≤ 268435456)
    (hdat : Ints3 W Ad nd data) (hd0 : Ad = none → cd = 0) (hdb : ∀ x ∈ data, -9223372036854775808 ≤ x ∧ x ≤ 9223372036854775807) (hnd : nd * 8 ≤ 140737488355328) :
    Calls Tryz.prog 6 #[.slice X n c, .int .i64 names, .slice Ad nd cd] W fun e w' => e = .returned (.bool true) ∧ Below W.heap.size W w' := by
  have hll : l.length = n := Elems.len hs.row
  have hn := hs.n
  have HN := Lib.hid hll
  have HS := Lib.hid hs
  have HL := Lib.hid (Nat.le_trans hL (by decide : 268435456 ≤ 536870912))
  have HLL := Lib.hid hL
  have HDAT := Lib.hid hdat
  have HD0 := Lib.hid hd0
  have HDB := Lib.hid hdb
  clear hs hll hL hdat hd0 hdb
  go_enter Tryz.func6, Tryz.ntmps6
  go_wp2_with fail
  refine (run_new 1000 (by decide) (by decide) W (Below.refl _ _)).mono ?_
  rintro e w1 ⟨p, rfl, hr⟩
  have HR := Lib.hid hr
  clear hr
  go_wp2_with fail
  refine HR.out.mono ?_
  clear HR
  rintro e w2 ⟨q, rfl, hrun⟩
  go_wp2_with fail
  refine (wakes_calls (B0 := W.heap.size) (a := a) w2 hrun.below.size (hst.env.below hrun.below).f).mono ?_
  rintro e w3 ⟨rfl, hb3⟩
  have hrun := hrun.later hb3
  clear hb3
  go_wp2_with fail
  go_loopg [21] n (fun g s21 wr => ∃ i : Nat, i + g = n ∧ s21 = .int .i64 (i : Int) ∧ ∃ d, Run (costs (l.take i)) W wr p q d)
  case atStart => exact ⟨0, by omega, rfl, _, hrun⟩
  case round =>
    obtain ⟨i, hig, rfl, d, hr⟩ := hrel
    have HIG := Lib.hid hig
    clear hig
    by_cases hi : i < n
    · have el : decide ((i : Int) < (n : Int)) = true := by simp; omega
      have el' : decide (i < n) = true := by simp; omega
      have hiin : (i : Int) < (n : Int) := by omega
      have hil : i < l.length := by rw [HN.out]; exact hi
      have hct := costs_take hil
      have hcl := costs_le (l := l) (i + 1)
      have HCT := Lib.hid hct
      have HCL := Lib.hid (Nat.le_trans hcl HL.out)
      clear hct hcl
      have hmem : l[i]! ∈ l := by rw [getElem!_pos l i hil]; exact List.getElem_mem _
      have hop := HS.out.ops _ hmem
      obtain ⟨b, off, hXe, hbl, x0, x1, x2, x3, x4, x5, x6, x7⟩ := ops_at HS.out.row hi
      obtain ⟨e, he⟩ : ∃ e, l[i]! = e := ⟨_, rfl⟩
      rw [he] at x0 x1 x2 x3 x4 x5 x6 x7 hop HCT
      have hB := hr.below
      have x0 := (hB.cell (p := ⟨b, off + i * 8, none⟩) hbl).trans x0
      have x1 := (hB.cell (p := ⟨b, off + i * 8 + 1, none⟩) hbl).trans x1
      have x2 := (hB.cell (p := ⟨b, off + i * 8 + 2, none⟩) hbl).trans x2
      have x3 := (hB.cell (p := ⟨b, off + i * 8 + 3, none⟩) hbl).trans x3
      have x4 := (hB.cell (p := ⟨b, off + i * 8 + 4, none⟩) hbl).trans x4
      have x5 := (hB.cell (p := ⟨b, off + i * 8 + 5, none⟩) hbl).trans x5
      have x6 := (hB.cell (p := ⟨b, off + i * 8 + 6, none⟩) hbl).trans x6
      have x7 := (hB.cell (p := ⟨b, off + i * 8 + 7, none⟩) hbl).trans x7
      subst hXe
      have hbr : b < wr.heap.size := lt_of_cell x0
      have HOP := Lib.hid hop
      have HST := Lib.hid (fun w' M d (h : Run M W w' p q d) (hM : M + costO e ≤ 536870912) => h.step hst e hop hM)
      clear hmem hop he hB
      obtain ⟨⟨K, A, B, N, M', pa, pn, pc, da, dn, dc, yes⟩, parts, data⟩ := e
      dsimp only at x0 x1 x2 x3 x4 x5 x6 x7 HST
      go_upto_region 7 with fail
      obtain ⟨w4, hw4⟩ : ∃ x, wr.alloc (.cells #[.int .i64 K, .string A, .string B, .int .i64 N, .int .i64 M', .slice pa pn pc, .slice da dn dc, .bool yes] 44) = x := ⟨_, rfl⟩
      have hb4 : Below wr.heap.size wr w4 := by rw [← hw4]; exact (Below.refl _ _).alloc (Nat.le_refl _) _
      have hk4 : OpBox w4 wr.heap.size ⟨K, A, B, N, M', pa, pn, pc, da, dn, dc, yes⟩ := by rw [← hw4]; exact Blk.new _ _ _
      have hall := hk4.all
      rw [hw4]
      obtain ⟨r, hrr⟩ : ∃ r, wr.heap.size = r := ⟨_, rfl⟩
      rw [hrr] at hall ⊢
      have b0 := hall.c0
      have b1 := hall.c1
      have b2 := hall.c2
      have b3 := hall.c3
      have b4 := hall.c4
      have b5 := hall.c5
      have b6 := hall.c6
      have b7 := hall.c7
      have HR4 := Lib.hid (hr.later hb4)
      clear x0 x1 x2 x3 x4 x5 x6 x7 hall hk4 hb4 hw4 hrr hr hbl hbr
      go_wp2_with fail
      refine (HST.out _ _ _ HR4.out (by rw [← HCT.out]; exact HCL.out)).mono ?_
      rintro x w5 ⟨rfl, hr5⟩
      have HR5 := Lib.hid hr5
      clear b0 b1 b2 b3 b4 b5 b6 b7 hr5
      go_wp2_with fail
      go_roundg (gk - 1)
      case measure => have := HIG.out; omega
      case rel => exact ⟨i + 1, by have := HIG.out; omega, by go_num, _, by rw [HCT.out]; exact HR5.out⟩
    · have el : decide ((i : Int) < (n : Int)) = false := by simp; omega
      have el' : decide (i < n) = false := by simp; omega
      have hcl := costs_le (l := l) i
      have hM : costs (l.take i) ≤ 268435456 := Nat.le_trans hcl HLL.out
      obtain ⟨A2, c2, w4, hrun4, hi4, hb4, hA4⟩ := run_ints Ad nd cd data wr ((Elems.below HDAT.out hr.below).more hr.below.size) HD0.out hnd
      have HC := Lib.hid (hr.restartC (by omega) names A2 nd c2 data true hn1 hn2 w4 hb4 hi4 (fun x hx _ => hA4 x hx) HDB.out (by omega))
      have HRUN := Lib.hid hrun4
      have HM := Lib.hid hM
      clear hr hcl hi4 hb4 hA4 hrun4 hM
      go_wp2_with (at_builtin; refine wpList_known rfl _ _ _ rfl _ _ _ rfl rfl HRUN.out ?_)
      refine HC.out.mono ?_
      clear HC
      rintro e w5 ⟨rfl, hc5⟩
      have HC := Lib.hid (hc5.restart (by have := HM.out; omega) Ad nd cd hn1 hn2 HDAT.out HDB.out (by omega))
      clear hc5
      go_wp2_with fail
      refine HC.out.mono ?_
      clear HC
      rintro e w6 ⟨rfl, hr6⟩
      have HR6 := Lib.hid hr6
      clear hr6
      go_wp2_with fail
      refine (HR6.out.alike hst (by have := HM.out; omega)).mono ?_
      rintro e w7 ⟨rfl, hr7⟩
      obtain ⟨W7, hW7⟩ : ∃ x, w7.alloc (.cells #[.int .i64 5, .int .i64 1, .int .i64 0] 3) = x := ⟨_, rfl⟩
      have hb7 : Below w7.heap.size w7 W7 := by rw [← hW7]; exact (Below.refl _ _).alloc (Nat.le_refl _) _
      have hk7 : Blk W7 w7.heap.size 3 #[.int .i64 5, .int .i64 1, .int .i64 0] := by rw [← hW7]; exact Blk.new _ _ _
      have hs7 : Ints3 W7 (some ⟨w7.heap.size, 0, none⟩) 3 [5, 1, 0] := ⟨rfl, fun _ => ⟨_, 0, rfl, hk7.lt, fun i x hx j v hv => by
        match i, hx, j, hv with
        | 0, hx, 0, hv => injection hx with hx; subst hx; injection hv with hv; subst hv; exact hk7.cell 0
        | 1, hx, 0, hv => injection hx with hx; subst hx; injection hv with hv; subst hv; exact hk7.cell 1
        | 2, hx, 0, hv => injection hx with hx; subst hx; injection hv with hv; subst hv; exact hk7.cell 2
        | _, hx, j + 1, hv => simp [I1] at hv
        | i + 3, hx, _, _ => simp at hx⟩⟩
      have HC := Lib.hid (hr7.restartC (by have := HM.out; omega) (nd : Int) _ 3 3 [5, 1, 0] false (by omega) (by omega) W7 hb7 hs7 (fun x hx _ => by injection hx with hx; subst hx; exact Nat.le_refl _) (by decide) (by decide))
      have HW7 := Lib.hid hW7
      clear hk7 hs7 hW7 hb7 hr7
      go_wp2_with fail
      rw [HW7.out]
      refine HC.out.mono ?_
      clear HC
      rintro e w8 ⟨rfl, hc8⟩
      have HR8 := Lib.hid (hc8.same (restart_again _ _ _ _ _ _ _))
      clear hc8
      go_wp2_with fail
      refine (HR8.out.alike hst (by have := HM.out; omega)).mono ?_
      rintro e w9 ⟨rfl, hr9⟩
      have HB9 := Lib.hid hr9.below
      clear hr9
      go_wp2_with fail
      go_ret
      exact ⟨rfl, HB9.out⟩
end Go.Proofs.YtdaidbnbfjgjeaaGreatDoor
