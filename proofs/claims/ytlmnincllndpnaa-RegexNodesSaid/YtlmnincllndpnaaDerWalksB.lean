/- The walks of layer 7 (deriv): rest and star. -/
import Derived.Test.YtlmnincllndpnaaDerWalksA
namespace Go.Proofs.Ytlmnincllndpnaa
open Go.RowKit
open Go.ChangeMaps (setBlock)
open Go.MapKept (Stamped)
attribute [local go_sem ↓] Go.wp_at_zero Go.wp_at_succ
attribute [local go_sem] Later.cell Later.frozen

theorem RestEntry.keep {w w' : World} {e : MapEntry} (hk : Keeps w w') (h : RestEntry w e) : RestEntry w' e := by
  obtain ⟨a, b, q, h1, h2, h3, h4, h5⟩ := h
  exact ⟨a, b, q, h1.keep hk, h2.keep hk, h3, h4, hk _ _ _ h5⟩
theorem StarEntry.keep {w w' : World} {e : MapEntry} (hk : Keeps w w') (h : StarEntry w e) : StarEntry w' e := by
  obtain ⟨p, q, ks, h1, h2, h3, h4⟩ := h
  exact ⟨p, q, ks, h1, h2, hk _ _ _ h3, hk _ _ _ h4⟩
/-- The run's blocks stay where nothing is laid into its maps. -/
theorem DMem.stay {w w' : World} {R M1 M2 : Nat} {ex : List Nat} (h : DMem w R M1 M2) (hk : Kept w.heap.size ex w w') (hs : Keeps w w') (h1 : M1 ∉ ex) (h2 : M2 ∉ ex) : DMem w' R M1 M2 := by
  obtain ⟨es1, c1, hm1, he1⟩ := h.m1
  obtain ⟨es2, c2, hm2, he2⟩ := h.m2
  have l1 : M1 < w.heap.size := (Array.getElem?_eq_some_iff.1 hm1).1
  have l2 : M2 < w.heap.size := (Array.getElem?_eq_some_iff.1 hm2).1
  exact ⟨hs _ _ _ h.run, ⟨es1, c1, (hk.block M1 l1 h1).trans hm1, fun e he => (he1 e he).keep hs⟩, ⟨es2, c2, (hk.block M2 l2 h2).trans hm2, fun e he => (he2 e he).keep hs⟩, h.ne⟩
theorem DMem.below {w w' : World} {R M1 M2 : Nat} (h : DMem w R M1 M2) (hb : Below w.heap.size w w') : DMem w' R M1 M2 :=
  h.stay (ex := []) (.of_below hb) (fun _ _ _ hx => hx.below hb hx.lt) (by simp) (by simp)

theorem zero_restp (w : World) : (zeroValue 62).run Try.prog w = .ok (.pointer none) w := by kernel_rfl
theorem zero_node (w : World) : (zeroValue 23).run Try.prog w = .ok (.pointer none) w := by kernel_rfl
theorem zero_int (w : World) : (zeroValue 3).run Try.prog w = .ok (.int .i64 0) w := by kernel_rfl

theorem PtrIs.form {w : World} {v : Value} (h : PtrIs w v) : ∃ o, v = .pointer o := by
  rcases h with rfl | ⟨q, t, cs, rfl, _⟩
  · exact ⟨_, rfl⟩
  · exact ⟨_, rfl⟩
theorem below_keeps {w w' : World} (hb : Below w.heap.size w w') : Keeps w w' := fun _ _ _ hx => hx.below hb hx.lt

theorem drewN_keeps (w : World) (n : Nat) : Keeps w (w.drewN n) := fun _ _ _ h => h
theorem look_rest {W : World} {M1 : Nat} {es : Array MapEntry} {clock : Nat} {a b : Value} (hm : W.heap[M1]? = some (.map es clock)) (he : ∀ e ∈ es.toList, RestEntry W e) (pa : PtrIs W a) (pb : PtrIs W b) :
    (Instr.lookup 78 (.map (some M1)) (.agg #[a, b]) false).run Try.prog W = .ok (atK es (.agg #[a, b]) (.pointer none)) W :=
  look_run (fine_rest pa pb) Try.underlying78 (zero_restp W) hm (fun e hx => by
    obtain ⟨c, d, q, h1, h2, h3, _⟩ := he e hx
    rw [h3]
    exact cmp_rest pa pb h1 h2)
theorem at_rest {W : World} {es : Array MapEntry} {a b : Value} (he : ∀ e ∈ es.toList, RestEntry W e) :
    (∃ q, atK es (.agg #[a, b]) (.pointer none) = .pointer (some ⟨q, 0, none⟩) ∧ Blk W q 64 #[a, b]) ∨ ((∀ e ∈ es.toList, e.key ≠ .agg #[a, b]) ∧ atK es (.agg #[a, b]) (.pointer none) = .pointer none) := by
  rcases atK_cases es (.agg #[a, b]) (.pointer none) with ⟨e, h1, h2, h3⟩ | h
  · obtain ⟨c, d, q, _, _, h4, h5, h6⟩ := he e h1
    rw [h4] at h2
    simp at h2
    obtain ⟨rfl, rfl⟩ := h2
    exact .inl ⟨q, h3.trans h5, h6⟩
  · exact .inr h

theorem setBlock_keeps {w : World} {m : Nat} {es : Array MapEntry} {clock : Nat} (h : w.heap[m]? = some (.map es clock)) (o : Obj) : Keeps w (setBlock w m o) := by
  intro b t cs hb
  refine (setBlock_other w o ?_).trans hb
  rintro rfl
  unfold Blk at hb
  rw [h] at hb
  cases hb
theorem Keeps.drewN {w w' : World} (h : Keeps w w') (n : Nat) : Keeps w (w'.drewN n) := h
/-- A rest more in the run's map. -/
theorem DMem.lay1 {w : World} {R M1 M2 : Nat} (h : DMem w R M1 M2) {es es' : Array MapEntry} {c c' : Nat} {k v : Value} (hm : w.heap[M1]? = some (.map es c)) (hl : Laid es es' c c' k v) (hn : ∀ e : MapEntry, e.key = k → e.val = v → RestEntry w e) : DMem (setBlock w M1 (.map es' c')) R M1 M2 := by
  have hk := setBlock_keeps hm (.map es' c')
  obtain ⟨es1, c1, hm1, he1⟩ := h.m1
  obtain ⟨es2, c2, hm2, he2⟩ := h.m2
  rw [hm] at hm1
  injection hm1 with hm1
  injection hm1 with hm1 _
  subst hm1
  refine ⟨hk _ _ _ h.run, ⟨es', c', setBlock_same hm, fun e he => ?_⟩, ⟨es2, c2, (setBlock_other w _ (Ne.symm h.ne)).trans hm2, fun e he => (he2 e he).keep hk⟩, h.ne⟩
  rcases hl.olds e he with h1 | ⟨h1, h2⟩
  · exact (he1 e h1).keep hk
  · exact (hn e h1 h2).keep hk
theorem DMem.lay2 {w : World} {R M1 M2 : Nat} (h : DMem w R M1 M2) {es es' : Array MapEntry} {c c' : Nat} {k v : Value} (hm : w.heap[M2]? = some (.map es c)) (hl : Laid es es' c c' k v) (hn : ∀ e : MapEntry, e.key = k → e.val = v → StarEntry w e) : DMem (setBlock w M2 (.map es' c')) R M1 M2 := by
  have hk := setBlock_keeps hm (.map es' c')
  obtain ⟨es1, c1, hm1, he1⟩ := h.m1
  obtain ⟨es2, c2, hm2, he2⟩ := h.m2
  rw [hm] at hm2
  injection hm2 with hm2
  injection hm2 with hm2 _
  subst hm2
  refine ⟨hk _ _ _ h.run, ⟨es1, c1, (setBlock_other w _ h.ne).trans hm1, fun e he => (he1 e he).keep hk⟩, ⟨es', c', setBlock_same hm, fun e he => ?_⟩, h.ne⟩
  rcases hl.olds e he with h1 | ⟨h1, h2⟩
  · exact (he2 e h1).keep hk
  · exact (hn e h1 h2).keep hk

set_option maxRecDepth 100000 in
set_option maxHeartbeats 1000000 in
theorem rest_calls (t : Tr) (c : List Tr) (p : Nat) (o : Option Addr) (R M1 M2 : Nat) (w : World) (hd : DMem w R M1 M2) (ht : TreeIs w t p) (hc : ChainIs w c (.pointer o)) :
    Calls Try.prog 38 #[.pointer (some ⟨R, 0, none⟩), .pointer (some ⟨p, 0, none⟩), .pointer o] w fun e w' =>
      ∃ q, e = .returned (.pointer (some ⟨q, 0, none⟩)) ∧ ChainIs w' (t :: c) (.pointer (some ⟨q, 0, none⟩)) ∧ DMem w' R M1 M2 ∧ Kept w.heap.size [M1] w w' := by
  have hbW : Below w.heap.size w (w.alloc (.cells #[.pointer (some ⟨p, 0, none⟩), .pointer o] 64)) := by go_grown
  have hqW : Blk (w.alloc (.cells #[.pointer (some ⟨p, 0, none⟩), .pointer o] 64)) w.heap.size 64 #[.pointer (some ⟨p, 0, none⟩), .pointer o] := Blk.new _ _ _
  go_enter Try.func38, Try.ntmps38
  go_upto_region 2 with fail
  obtain ⟨W, hW⟩ : ∃ W, w.alloc (.cells #[.pointer (some ⟨p, 0, none⟩), .pointer o] 64) = W := ⟨_, rfl⟩
  rw [hW] at hbW hqW ⊢
  clear hW
  have hkW := below_keeps hbW
  have hdW := hd.below hbW
  have htW := ht.keep hkW
  have hcW := hc.keep hkW
  have pa := htW.ptr
  have pb := hcW.ptr
  obtain ⟨es, clock, hm, he⟩ := hdW.m1
  have r0 : _ = some (Value.map (some M1)) := hdW.run.cell 0
  have q0 : _ = some (Value.pointer (some ⟨p, 0, none⟩)) := hqW.cell 0
  have q1 : _ = some (Value.pointer o) := hqW.cell 1
  have hlook : ∀ n, (Instr.lookup 78 (.map (some M1)) (.agg #[.pointer (some ⟨p, 0, none⟩), .pointer o]) false).run Try.prog (W.drewN n) = .ok (atK es (.agg #[.pointer (some ⟨p, 0, none⟩), .pointer o]) (.pointer none)) (W.drewN n) :=
    fun n => look_rest (W := W.drewN n) hm (fun e hx => (he e hx).keep (drewN_keeps W n)) (pa.keep (drewN_keeps W n)) (pb.keep (drewN_keeps W n))
  rcases at_rest (a := .pointer (some ⟨p, 0, none⟩)) (b := .pointer o) he with ⟨q, hv, hq⟩ | ⟨hno, hv⟩
  · rw [hv] at hlook
    clear hv he hm
    go_quiet (fail)
    go_wp2
    go_quiet (fail)
    go_wp2
    go_ret
    exact ⟨q, rfl, ⟨q, p, _, rfl, hq, htW.keep (((Keeps.refl _).drewN _).drewN _), hcW.keep (((Keeps.refl _).drewN _).drewN _)⟩, hdW.below (below_drewN (below_drewN (Below.refl _ _) _) _), .of_below (below_drewN (below_drewN hbW _) _)⟩
  · rw [hv] at hlook
    go_quiet (fail)
    clear hlook hv q0 q1 r0
    obtain ⟨W2, hW2⟩ : ∃ W2, W.drewN nq = W2 := ⟨_, rfl⟩
    have hb2 : Below W.heap.size W W2 := by rw [← hW2]; exact below_drewN (Below.refl _ _) _
    rw [hW2]
    clear hW2
    have hk2 := below_keeps hb2
    have hd2 := hdW.below hb2
    have ht2 := htW.keep hk2
    have hc2 := hcW.keep hk2
    have hq2 := hk2 _ _ _ hqW
    have hbB : Below w.heap.size w W2 := then_ hbW hb2
    clear hd ht hc hbW hqW hkW hdW htW hcW pa pb hm he hno hb2 hk2
    have r0 : _ = some (Value.map (some M1)) := hd2.run.cell 0
    have q0 : _ = some (Value.pointer (some ⟨p, 0, none⟩)) := hq2.cell 0
    have q1 : _ = some (Value.pointer o) := hq2.cell 1
    have hRl := hd2.run.lt
    have hql := hq2.lt
    go_upto_region 3 with fail
    refine wp_region_later_tail 5 (by kernel_rfl) (by kernel_rfl) ?_
    simp only [List.take_succ_cons, List.take_zero, List.drop_succ_cons, List.drop_zero]
    repeat (go_big_quiet_step (fail))
    refine wpQuiet_nil ?_
    rintro w3 ⟨⟨_, hb3⟩, rfl⟩
    have hk3 := below_keeps hb3
    have hd3 := hd2.below hb3
    have ht3 := ht2.keep hk3
    have hc3 := hc2.keep hk3
    have hq3 := hk3 _ _ _ hq2
    have hbB3 : Below w.heap.size w w3 := then_ hbB hb3
    obtain ⟨es3, c3, hm3, he3⟩ := hd3.m1
    obtain ⟨es4, c4, hrun, hlaid⟩ := lay_cases (v := .pointer (some ⟨w.heap.size, 0, none⟩)) (fine_rest ht3.ptr hc3.ptr) Try.underlying78 hm3 (fun e hx => by
      obtain ⟨a, b, q, h1, h2, h3, _⟩ := he3 e hx
      rw [h3]
      exact cmp_rest ht3.ptr hc3.ptr h1 h2)
    have hk4 := setBlock_keeps hm3 (.map es4 c4)
    have hd4 := hd3.lay1 hm3 hlaid (fun e h1 h2 => ⟨_, _, w.heap.size, ht3.ptr, hc3.ptr, h1, h2, hq3⟩)
    have ht4 := ht3.keep hk4
    have hc4 := hc3.keep hk4
    have hq4 := hk4 _ _ _ hq3
    have hm4 := setBlock_same (o' := .map es4 c4) hm3
    obtain ⟨en, hen, hek, _⟩ := hlaid.new
    have hkB : Kept w.heap.size [M1] w (setBlock w3 M1 (.map es4 c4)) := (Kept.of_below hbB3).setBlock (.inl (by simp)) _
    obtain ⟨W4, hW4⟩ : ∃ W4, setBlock w3 M1 (.map es4 c4) = W4 := ⟨_, rfl⟩
    rw [hW4] at hrun hk4 hd4 ht4 hc4 hq4 hkB hm4
    have HM4 := Lib.hid hm4
    have HEK := Lib.hid hek
    clear hW4 hlaid he3 hm3 hm4 hek
    go_upto_region 4 with fail
    clear hrun r0 q0 q1 hRl hql
    have r0 : _ = some (Value.map (some M1)) := hd4.run.cell 0
    have q0 : _ = some (Value.pointer (some ⟨p, 0, none⟩)) := hq4.cell 0
    have q1 : _ = some (Value.pointer o) := hq4.cell 1
    obtain ⟨es5, c5, hm5, he5⟩ := hd4.m1
    have hlook : ∀ n, (Instr.lookup 78 (.map (some M1)) (.agg #[.pointer (some ⟨p, 0, none⟩), .pointer o]) false).run Try.prog (W4.drewN n) = .ok (atK es5 (.agg #[.pointer (some ⟨p, 0, none⟩), .pointer o]) (.pointer none)) (W4.drewN n) :=
      fun n => look_rest (W := W4.drewN n) hm5 (fun e hx => (he5 e hx).keep (drewN_keeps W4 n)) (ht4.ptr.keep (drewN_keeps W4 n)) (hc4.ptr.keep (drewN_keeps W4 n))
    have hfound : ∃ q, atK es5 (.agg #[.pointer (some ⟨p, 0, none⟩), .pointer o]) (.pointer none) = .pointer (some ⟨q, 0, none⟩) ∧ Blk W4 q 64 #[.pointer (some ⟨p, 0, none⟩), .pointer o] := by
      rcases at_rest (a := .pointer (some ⟨p, 0, none⟩)) (b := .pointer o) he5 with h | ⟨hno, _⟩
      · exact h
      · exfalso
        have hm4 := HM4.out
        rw [hm5] at hm4
        injection hm4 with hm4
        injection hm4 with hm4 _
        subst hm4
        exact hno en hen HEK.out
    obtain ⟨q, hv, hq⟩ := hfound
    rw [hv] at hlook
    clear hv he5 hm5
    go_quiet (fail)
    go_wp2
    go_ret
    exact ⟨q, rfl, ⟨q, p, _, rfl, hq, ht4.keep ((Keeps.refl _).drewN _), hc4.keep ((Keeps.refl _).drewN _)⟩, hd4.below (below_drewN (Below.refl _ _) _), hkB.trans (.of_below (below_drewN (Below.refl _ _) _))⟩

theorem look_star {W : World} {M2 : Nat} {es : Array MapEntry} {clock : Nat} {a : Value} (hm : W.heap[M2]? = some (.map es clock)) (he : ∀ e ∈ es.toList, StarEntry W e) (pa : PtrIs W a) :
    (Instr.lookup 79 (.map (some M2)) a false).run Try.prog W = .ok (atK es a (.pointer none)) W :=
  look_run (fine_ptr Try.underlying23 pa) Try.underlying79 (zero_node W) hm (fun e hx => by
    obtain ⟨p, q, ks, h1, h2, h3, _⟩ := he e hx
    rw [h1]
    exact cmp_node pa (.inr ⟨p, _, _, rfl, h3⟩))
theorem at_star {W : World} {es : Array MapEntry} {p k : Nat} (he : ∀ e ∈ es.toList, StarEntry W e) (hp : Blk W p 52 (nodeCells 5 0 (.slice (some ⟨k, 0, none⟩) 1 1))) :
    (∃ q, atK es (.pointer (some ⟨p, 0, none⟩)) (.pointer none) = .pointer (some ⟨q, 0, none⟩) ∧ Blk W q 52 (nodeCells 4 0 (.slice (some ⟨k, 0, none⟩) 1 1))) ∨
      ((∀ e ∈ es.toList, e.key ≠ .pointer (some ⟨p, 0, none⟩)) ∧ atK es (.pointer (some ⟨p, 0, none⟩)) (.pointer none) = .pointer none) := by
  rcases atK_cases es (.pointer (some ⟨p, 0, none⟩)) (.pointer none) with ⟨e, h1, h2, h3⟩ | h
  · obtain ⟨p', q, ks, h4, h5, h6, h7⟩ := he e h1
    rw [h4] at h2
    simp at h2
    subst h2
    unfold Blk at h6 hp
    rw [h6] at hp
    injection hp with hp
    injection hp with hp _
    simp [nodeCells] at hp
    subst hp
    exact .inl ⟨q, h3.trans h5, h7⟩
  · exact .inr h

set_option maxRecDepth 100000 in
set_option maxHeartbeats 1000000 in
theorem star_calls (a : Tr) (p : Nat) (R M1 M2 : Nat) (w : World) (hd : DMem w R M1 M2) (ht : TreeIs w (.plus a) p) :
    Calls Try.prog 49 #[.pointer (some ⟨R, 0, none⟩), .pointer (some ⟨p, 0, none⟩)] w fun e w' =>
      ∃ q, e = .returned (.pointer (some ⟨q, 0, none⟩)) ∧ TreeIs w' (.star a) q ∧ DMem w' R M1 M2 ∧ Kept w.heap.size [M2] w w' := by
  obtain ⟨k, pa, ha, hka, hp⟩ := ht
  obtain ⟨es, clock, hm, he⟩ := hd.m2
  have hpp : PtrIs w (.pointer (some ⟨p, 0, none⟩)) := .inr ⟨p, _, _, rfl, hp⟩
  have hlook := look_star hm he hpp
  have r0 : _ = some (Value.map (some M2)) := hd.run.cell 1
  have p5 : _ = some (Value.slice (some ⟨k, 0, none⟩) 1 1) := hp.cell 5
  rcases at_star he hp with ⟨q, hv, hq⟩ | ⟨hno, hv⟩
  · rw [hv] at hlook
    clear hv hm he hpp
    go_enter Try.func49, Try.ntmps49
    go_wp2
    go_ret
    exact ⟨q, rfl, ⟨k, pa, ha, hka, hq⟩, hd, Kept.refl _ _ _⟩
  · rw [hv] at hlook
    clear hv
    have OBJ : Obj.cells #[.int .i64 4, .int .u64 0, .int .u64 0, .int .u64 0, .int .u64 0, .slice (some ⟨k, 0, none⟩) 1 1] 52 = Obj.cells (nodeCells 4 0 (.slice (some ⟨k, 0, none⟩) 1 1)) 52 := rfl
    have hb3 : Below w.heap.size w (w.alloc (Obj.cells #[.int .i64 4, .int .u64 0, .int .u64 0, .int .u64 0, .int .u64 0, .slice (some ⟨k, 0, none⟩) 1 1] 52)).drew := by go_grown
    have hq3 : Blk (w.alloc (Obj.cells #[.int .i64 4, .int .u64 0, .int .u64 0, .int .u64 0, .int .u64 0, .slice (some ⟨k, 0, none⟩) 1 1] 52)).drew w.heap.size 52 (nodeCells 4 0 (.slice (some ⟨k, 0, none⟩) 1 1)) := Blk.new _ _ _
    have hk3 := below_keeps hb3
    have hd3 := hd.below hb3
    have hp3 := hk3 _ _ _ hp
    have ha3 := ha.keep hk3
    have hka3 := hk3 _ _ _ hka
    have hpp3 : PtrIs _ (.pointer (some ⟨p, 0, none⟩)) := .inr ⟨p, _, _, rfl, hp3⟩
    obtain ⟨es3, c3, hm3, he3⟩ := hd3.m2
    obtain ⟨es4, c4, hrun, hlaid⟩ := lay_cases (v := .pointer (some ⟨w.heap.size, 0, none⟩)) (fine_ptr Try.underlying23 hpp3) Try.underlying79 hm3 (fun e hx => by
      obtain ⟨p', q, ks, h1, h2, h3, _⟩ := he3 e hx
      rw [h1]
      exact cmp_node hpp3 (.inr ⟨p', _, _, rfl, h3⟩))
    have hd4 := hd3.lay2 hm3 hlaid (fun e h1 h2 => ⟨p, w.heap.size, _, h1, h2, hp3, hq3⟩)
    have hk4 := setBlock_keeps hm3 (.map es4 c4)
    have hp4 := hk4 _ _ _ hp3
    have hq4 := hk4 _ _ _ hq3
    have ha4 := ha3.keep hk4
    have hka4 := hk4 _ _ _ hka3
    have hm4 := setBlock_same (o' := .map es4 c4) hm3
    have hkB : Kept w.heap.size [M2] w (setBlock (w.alloc (Obj.cells #[.int .i64 4, .int .u64 0, .int .u64 0, .int .u64 0, .int .u64 0, .slice (some ⟨k, 0, none⟩) 1 1] 52)).drew M2 (.map es4 c4)) := (Kept.of_below hb3).setBlock (.inl (by simp)) _
    obtain ⟨en, hen, hek, _⟩ := hlaid.new
    obtain ⟨W4, hW4⟩ : ∃ W4, setBlock (w.alloc (Obj.cells #[.int .i64 4, .int .u64 0, .int .u64 0, .int .u64 0, .int .u64 0, .slice (some ⟨k, 0, none⟩) 1 1] 52)).drew M2 (.map es4 c4) = W4 := ⟨_, rfl⟩
    rw [hW4] at hrun hd4 hk4 hp4 hq4 ha4 hka4 hm4 hkB
    have HM4 := Lib.hid hm4
    have HEK := Lib.hid hek
    have r3 : _ = some (Value.map (some M2)) := hd3.run.cell 1
    have p3 : _ = some (Value.slice (some ⟨k, 0, none⟩) 1 1) := hp3.cell 5
    obtain ⟨es5, c5, hm5, he5⟩ := hd4.m2
    have hpp4 : PtrIs W4 (.pointer (some ⟨p, 0, none⟩)) := .inr ⟨p, _, _, rfl, hp4⟩
    have hlook4 := look_star hm5 he5 hpp4
    have hfound : ∃ q, atK es5 (.pointer (some ⟨p, 0, none⟩)) (.pointer none) = .pointer (some ⟨q, 0, none⟩) ∧ Blk W4 q 52 (nodeCells 4 0 (.slice (some ⟨k, 0, none⟩) 1 1)) := by
      rcases at_star he5 hp4 with h | ⟨hno, _⟩
      · exact h
      · exfalso
        rw [hm5] at hm4
        injection hm4 with hm4
        injection hm4 with hm4 _
        subst hm4
        exact hno en hen hek
    obtain ⟨q, hv, hq⟩ := hfound
    rw [hv] at hlook4
    have r4 : _ = some (Value.map (some M2)) := hd4.run.cell 1
    clear hv hm5 he5 hm4 hek hm3 he3 hlaid hW4 OBJ hno he hm hpp hen HM4 HEK hk3 hk4
    have HD := hd.run.lt
    go_enter Try.func49, Try.ntmps49
    go_wp2
    go_region
    go_wp2
    go_ret
    exact ⟨q, rfl, ⟨k, pa, ha4, hka4, hq⟩, hd4, hkB⟩
end Go.Proofs.Ytlmnincllndpnaa
