/- The walk of the document's Parse. -/
import Derived.Test.YtlmnincllndpnaaRefWalksE
namespace Go.Proofs.Ytlmnincllndpnaa
open Go.RowKit
attribute [local go_sem ↓] Go.wp_at_zero Go.wp_at_succ
attribute [local go_sem] Later.cell Later.frozen
attribute [-go_sem] loadCells

/-- The document's tree at block t, with its nodes. -/
def RefTree (w : World) (t : Nat) (ns : List RN) : Prop :=
  ∃ base v s j d, Rf w t v s j d 0 ∧ w.ownsRow base 68 259 v ns.length (flat ns)
theorem RefTree.below {w w' : World} {t : Nat} {ns : List RN} (h : RefTree w t ns) (hb : Below w.heap.size w w') : RefTree w' t ns := by
  obtain ⟨base, v, s, j, d, h1, h2⟩ := h
  exact ⟨base, v, s, j, d, h1.below hb, ownsRow_at h2 (fun g hg => hb.block g (h2.lt g hg).2)⟩
/-- It lies in blocks from lo on. -/
def RefNew (lo : Nat) (w : World) (t : Nat) (ns : List RN) : Prop :=
  ∃ base v s j d, lo ≤ base ∧ lo ≤ t ∧ Rf w t v s j d 0 ∧ w.ownsRow base 68 259 v ns.length (flat ns)
theorem RefNew.tree {lo : Nat} {w : World} {t : Nat} {ns : List RN} (h : RefNew lo w t ns) : RefTree w t ns := by
  obtain ⟨base, v, s, j, d, _, _, h1, h2⟩ := h
  exact ⟨base, v, s, j, d, h1, h2⟩
theorem RefNew.below {lo : Nat} {w w' : World} {t : Nat} {ns : List RN} (h : RefNew lo w t ns) (hb : Below w.heap.size w w') : RefNew lo w' t ns := by
  obtain ⟨base, v, s, j, d, g1, g2, h1, h2⟩ := h
  exact ⟨base, v, s, j, d, g1, g2, h1.below hb, ownsRow_at h2 (fun g hg => hb.block g (h2.lt g hg).2)⟩
theorem RN.size (x : RN) : x.row.size = 259 := nodeRow_size _ _ _ _
/-- A node, read as a row. -/
theorem node_load {w : World} {base : Nat} {v : Value} {ns : List RN} (h : w.ownsRow base 68 259 v ns.length (flat ns)) {n : Nat} {x : RN} (hx : ns[n]? = some x) :
    ∃ g cap, v = .slice (some ⟨g, 0, none⟩) ns.length cap ∧ (loadCells ⟨g, n * 259, none⟩ 259).run Try.prog w = .ok x.row w ∧ g < w.heap.size := by
  have hlt := (List.getElem?_eq_some_iff.1 hx).1
  rcases h.2 with ⟨rfl, he⟩ | ⟨g, cap, cur, rfl, hb, hh, hnc, _, hsize, htk⟩
  · have : (flat ns).length = 259 * ns.length := by
      clear h he hx hlt
      induction ns with
      | nil => rfl
      | cons y l ih =>
        have e : flat (y :: l) = y.row.toList ++ flat l := rfl
        rw [e, List.length_append, ih]
        have := y.size
        simp only [Array.length_toList, List.length_cons, this]
        omega
    rw [he] at this
    simp at this
    omega
  · refine ⟨g, cap, rfl, ?_, ?_⟩
    · obtain ⟨A, c, hA, hE, _⟩ := Elems.of_own (enc := fun x : RN => x.row.toList) (xs := ns) (fun y _ => by have := y.size; simpa using this) rfl h rfl
      injection hA with hA _ _
      subst hA
      obtain ⟨b, off, e, _, hc⟩ := hE.2 (by omega)
      injection e with e
      injection e with e1 e2
      subst e1 e2
      have := run_loadCells_list (P := Try.prog) w ⟨g, n * 259, none⟩ x.row.toList (fun j u hu => by
        have := hc n x hx j u hu
        rw [Addr.add_lit]
        rw [Nat.zero_add] at this
        exact this)
      have e := x.size
      simpa [e] using this
    · rcases Nat.lt_or_ge g w.heap.size with hl | hge
      · exact hl
      · rw [Array.getElem?_eq_none hge] at hh; cases hh
theorem rput_row {w wr : World} {base t d j f : Nat} {s : ByteArray} {ns : List RN} (h : RfMem w wr base t s d j f ns) (x : RN) (n : Nat) (hl : ns.length = n) (hn : n < 1000) :
    Calls Try.prog 31 #[.pointer (some ⟨t, 0, none⟩), .agg x.row] wr fun e w' => e = .returned (.int .i64 n) ∧ RfMem w w' base t s d j f (ns ++ [x]) := rput_mem h x n hl hn
/-- A variable for a node, filled. -/
theorem node_made (w : World) (x : RN) :
    ∃ w', (storeCells ⟨w.heap.size, 0, none⟩ x.row.toList).run Try.prog (w.alloc (.cells Try.zeroCells68 68)) = .ok () w' ∧ Below w.heap.size w w' ∧ Blk w' w.heap.size 68 x.row := by
  obtain ⟨w', h1, h2, h3⟩ := row_made (P := Try.prog) w 68 Try.zeroCells68 x.row.toList (by rw [made_none]; simp [x.size, nodeRow_size]) (nodeRow_one _ _ _ _)
  exact ⟨w', h1, h2, by simpa using h3⟩
theorem NodeIs.copy {ns : List RN} {n : Nat} {x : RN} (hx : ns[n]? = some x) : ∀ {u : Tr}, NodeIs ns u n → NodeIs (ns ++ [x]) u ns.length
  | .empty, e => by
    have e : ns[n]? = some ⟨0, 0, 0, 0⟩ := e
    rw [hx] at e; injection e with e; subst e; exact get_snoc _ _
  | .cls S, e => by
    obtain ⟨h1, e⟩ := e
    rw [hx] at e; injection e with e; subst e; exact ⟨h1, get_snoc _ _⟩
  | .cat a b, ⟨i, j, e, ha, hb⟩ => by rw [hx] at e; injection e with e; subst e; exact ⟨i, j, get_snoc _ _, ha.more (NExt.snoc _ _), hb.more (NExt.snoc _ _)⟩
  | .alt a b, ⟨i, j, e, ha, hb⟩ => by rw [hx] at e; injection e with e; subst e; exact ⟨i, j, get_snoc _ _, ha.more (NExt.snoc _ _), hb.more (NExt.snoc _ _)⟩
  | .star a, ⟨i, e, ha⟩ => by rw [hx] at e; injection e with e; subst e; exact ⟨i, get_snoc _ _, ha.more (NExt.snoc _ _)⟩
  | .plus a, ⟨i, e, ha⟩ => by rw [hx] at e; injection e with e; subst e; exact ⟨i, get_snoc _ _, ha.more (NExt.snoc _ _)⟩
  | .quest a, ⟨i, e, ha⟩ => by rw [hx] at e; injection e with e; subst e; exact ⟨i, get_snoc _ _, ha.more (NExt.snoc _ _)⟩

def RParseOut (w : World) (res : Except Nat Tr) (e : Ending) (w' : World) : Prop :=
  match res with
  | .ok u => ∃ t ns n, e = .returned (.tuple #[.pointer (some ⟨t, 0, none⟩), .int .i64 0]) ∧ ns.length = n + 1 ∧ n ≤ 1000 ∧ RefNew w.heap.size w' t ns ∧ NodeIs ns u n ∧ Below w.heap.size w w'
  | .error c => c ≠ 0 ∧ e = .returned (.tuple #[.pointer none, .int .i64 c]) ∧ Below w.heap.size w w'

set_option maxRecDepth 100000 in
set_option maxHeartbeats 1000000 in
theorem rparse_calls (s : ByteArray) (res : Except Nat Tr) (h : Parses s.data.toList res) (w : World) :
    Calls Try.prog 16 #[.string s] w (RParseOut w res) := by
  have hsz : s.data.toList.length = s.size := rfl
  by_cases hlong : 64 < s.size
  · have hres : res = .error 60 := by
      cases res with
      | ok t => have := h.1; omega
      | error c =>
        rcases h with ⟨_, rfl⟩ | ⟨h1, _⟩
        · rfl
        · omega
    subst hres
    clear h hsz
    go_enter Try.func16, Try.ntmps16
    go_wp2
    go_ret2
    exact ⟨by omega, rfl, Below.refl _ _⟩
  · have hz : s.size ≤ 64 := by omega
    obtain ⟨n, r0, hrun, hrel⟩ : ∃ n r0, run n .branches (s.data.toList.drop 0) 0 = some r0 ∧ res = (match r0 with | .ok tl => .ok tl.1 | .error c => .error c) := by
      rw [List.drop_zero]
      cases res with
      | ok t => obtain ⟨_, n, l', h⟩ := h; exact ⟨n, _, h, rfl⟩
      | error c =>
        rcases h with ⟨h1, _⟩ | ⟨_, n, h⟩
        · omega
        · exact ⟨n, _, h, rfl⟩
    have HRUN := Lib.hid hrun
    have HREL := Lib.hid hrel
    clear hrun hrel h hsz
    go_enter Try.func16, Try.ntmps16
    go_upto_region 4 with fail
    obtain ⟨W0, hW0⟩ : ∃ W0, w.alloc (.cells #[.slice none 0 0, .string s, .int .i64 0, .int .i64 0, .int .i64 0] 41) = W0 := ⟨_, rfl⟩
    have hm : RfMem W0 W0 (w.heap.size + 1) w.heap.size s 0 0 0 [] := by
      rw [← hW0]
      exact ⟨⟨.slice none 0 0, Blk.new _ _ _, World.ownsRow_nil _ _ _ _, by simp [Value.ownBlock]⟩, Kept.refl _ _ _, by simp⟩
    have hb0 : Below w.heap.size w W0 := by rw [← hW0]; exact (Below.refl _ _).alloc (Nat.le_refl _) _
    rw [hW0]
    clear hW0
    obtain ⟨t, ht⟩ : ∃ t, w.heap.size = t := ⟨_, rfl⟩
    have hbel : ∀ w1 j f ns, RfMem W0 w1 (w.heap.size + 1) w.heap.size s 0 j f ns → Below w.heap.size w w1 := fun w1 j f ns h => hb0.trans ((h.kept.mono (B' := w.heap.size) (by omega) (fun _ _ h => h)).below (by simp))
    rw [ht] at hm hbel ⊢
    have HT := Lib.hid ht
    have HBEL := Lib.hid hbel
    clear ht hbel
    cases r0 with
    | error c =>
      have hres : res = .error c := HREL.out
      subst hres
      go_wp2_with fail
      refine ((ref_all n).2.2.2 (t + 1) t s 0 0 [] W0 _ hm (Nat.zero_le _) hz (by omega) (by simp) HRUN.out).mono ?_
      rintro e w1 ⟨hc, k, j, ns, rfl, hm1, _, _⟩
      have hbw := HBEL.out _ _ _ _ hm1
      obtain ⟨_, _, _, c4, _, _⟩ := hm1.cell
      have e0 : ((c : Int) != 0) = true := by simp; omega
      go_wp2_with fail
      go_quiet (fail)
      go_wp2_with fail
      go_ret2
      refine ⟨hc, rfl, ?_⟩
      rw [HT.out]
      exact below_drewN hbw _
    | ok tl =>
      obtain ⟨u, l'⟩ := tl
      have hres : res = .ok u := HREL.out
      subst hres
      go_wp2_with fail
      refine ((ref_all n).2.2.2 (t + 1) t s 0 0 [] W0 _ hm (Nat.zero_le _) hz (by omega) (by simp) HRUN.out).mono ?_
      rintro e w1 ⟨k, j, ns, rfl, hm1, _, hnode, _, hj, _, hbd⟩
      have hbw := HBEL.out _ _ _ _ hm1
      obtain ⟨_, _, _, c4, _, _⟩ := hm1.cell
      have hk := hnode.lt
      obtain ⟨v, h1, h2, h3⟩ := hm1.ex
      obtain ⟨x, hx⟩ : ∃ x, ns[k]? = some x := ⟨_, List.getElem?_eq_getElem hk⟩
      obtain ⟨g, cap, rfl, hlr, hgl⟩ := node_load h2 hx
      have c0 : _ = some (Value.slice (some ⟨g, 0, none⟩) ns.length cap) := h1.cell 0
      simp only [List.length_nil] at hbd
      have hlen : ns.length ≤ 200 := by omega
      by_cases hlast : k + 1 = ns.length
      · have e0 : ((k : Int) != (ns.length : Int) - 1) = false := by
          have : (k : Int) = (ns.length : Int) - 1 := by omega
          rw [this]; simp
        have HX := Lib.hid hx
        have HLA := Lib.hid hlast
        clear hx hlast hbd
        go_wp2_with fail
        go_ret2
        refine ⟨t, ns, k, rfl, HLA.out.symm, by omega, ⟨_, _, _, _, _, by rw [HT.out]; omega, by rw [HT.out]; omega, h1, h2⟩, hnode, ?_⟩
        rw [HT.out]
        exact hbw
      · have e0 : ((k : Int) != (ns.length : Int) - 1) = true := by simp; omega
        have HX := Lib.hid hx
        clear hx hlast hbd
        have hci : (k : Int) < (ns.length : Int) := by omega
        go_upto_region 8 with fail
        obtain ⟨w2, hrow, hb2, hn2⟩ := node_made w1 x
        have hm2 := hm1.below hb2
        have hlr2 : (loadCells ⟨w1.heap.size, 0, none⟩ 259).run Try.prog w2 = .ok x.row w2 := lc_row hn2 x.size
        have hrl : ¬ x.row.size ≠ 259 := by simp [x.size]
        go_upto_region 9 with fail
        clear hrow hlr c0 c4 hrl
        go_wp2_with fail
        refine (rput_row hm2 x ns.length rfl (by omega)).mono ?_
        rintro e w3 ⟨rfl, hm3⟩
        have hbw3 := HBEL.out _ _ _ _ hm3
        obtain ⟨v3, g1, g2, _⟩ := hm3.ex
        go_wp2_with fail
        go_ret2
        refine ⟨t, ns ++ [x], ns.length, rfl, by simp, by omega, ⟨_, _, _, _, _, by rw [HT.out]; omega, by rw [HT.out]; omega, g1, g2⟩, NodeIs.copy HX.out hnode, ?_⟩
        rw [HT.out]
        exact hbw3
end Go.Proofs.Ytlmnincllndpnaa
