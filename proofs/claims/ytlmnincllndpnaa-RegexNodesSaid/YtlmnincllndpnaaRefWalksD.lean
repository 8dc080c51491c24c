/- The walks of the document's reader: the functions that call each other. -/
import Derived.Test.YtlmnincllndpnaaRefWalksC
namespace Go.Proofs.Ytlmnincllndpnaa
open Go.RowKit
attribute [local go_sem ↓] Go.wp_at_zero Go.wp_at_succ
attribute [local go_sem] Later.cell Later.frozen

/-- A node of the document's tree. -/
structure RN where
  k : Int
  S : Nat
  a : Int
  b : Int
def RN.row (x : RN) : Array Value := nodeRow x.k x.S x.a x.b
def flat (ns : List RN) : List Value := ns.flatMap fun x => x.row.toList
theorem flat_snoc (ns : List RN) (x : RN) : flat (ns ++ [x]) = flat ns ++ x.row.toList := by simp [flat]
/-- Node n stands for the tree. -/
def NodeIs (ns : List RN) : Tr → Nat → Prop
  | .empty, n => ns[n]? = some ⟨0, 0, 0, 0⟩
  | .cls S, n => S < 2 ^ 256 ∧ ns[n]? = some ⟨1, S, 0, 0⟩
  | .cat a b, n => ∃ i j : Nat, ns[n]? = some ⟨2, 0, i, j⟩ ∧ NodeIs ns a i ∧ NodeIs ns b j
  | .alt a b, n => ∃ i j : Nat, ns[n]? = some ⟨3, 0, i, j⟩ ∧ NodeIs ns a i ∧ NodeIs ns b j
  | .star a, n => ∃ i : Nat, ns[n]? = some ⟨4, 0, i, 0⟩ ∧ NodeIs ns a i
  | .plus a, n => ∃ i : Nat, ns[n]? = some ⟨5, 0, i, 0⟩ ∧ NodeIs ns a i
  | .quest a, n => ∃ i : Nat, ns[n]? = some ⟨6, 0, i, 0⟩ ∧ NodeIs ns a i
def NExt (ns ms : List RN) : Prop := ∃ l, ms = ns ++ l
theorem NExt.refl (ns : List RN) : NExt ns ns := ⟨[], by simp⟩
theorem NExt.trans {a b c : List RN} (h : NExt a b) (h' : NExt b c) : NExt a c := by
  obtain ⟨l, rfl⟩ := h
  obtain ⟨m, rfl⟩ := h'
  exact ⟨l ++ m, by simp⟩
theorem NExt.snoc (ns : List RN) (x : RN) : NExt ns (ns ++ [x]) := ⟨[x], rfl⟩
theorem NExt.get {a b : List RN} (h : NExt a b) {n : Nat} {x : RN} (hx : a[n]? = some x) : b[n]? = some x := by
  obtain ⟨l, rfl⟩ := h
  rw [List.getElem?_append_left (List.getElem?_eq_some_iff.1 hx).1]
  exact hx
theorem NodeIs.more {ns ms : List RN} (h : NExt ns ms) : ∀ {u : Tr} {n : Nat}, NodeIs ns u n → NodeIs ms u n
  | .empty, _, e => h.get e
  | .cls _, _, e => ⟨e.1, h.get e.2⟩
  | .cat _ _, _, ⟨i, j, e, ha, hb⟩ => ⟨i, j, h.get e, NodeIs.more h ha, NodeIs.more h hb⟩
  | .alt _ _, _, ⟨i, j, e, ha, hb⟩ => ⟨i, j, h.get e, NodeIs.more h ha, NodeIs.more h hb⟩
  | .star _, _, ⟨i, e, ha⟩ => ⟨i, h.get e, NodeIs.more h ha⟩
  | .plus _, _, ⟨i, e, ha⟩ => ⟨i, h.get e, NodeIs.more h ha⟩
  | .quest _, _, ⟨i, e, ha⟩ => ⟨i, h.get e, NodeIs.more h ha⟩
theorem NodeIs.lt {ns : List RN} : ∀ {u : Tr} {n : Nat}, NodeIs ns u n → n < ns.length
  | .empty, _, e => (List.getElem?_eq_some_iff.1 e).1
  | .cls _, _, e => (List.getElem?_eq_some_iff.1 e.2).1
  | .cat _ _, _, ⟨_, _, e, _, _⟩ => (List.getElem?_eq_some_iff.1 e).1
  | .alt _ _, _, ⟨_, _, e, _, _⟩ => (List.getElem?_eq_some_iff.1 e).1
  | .star _, _, ⟨_, e, _⟩ => (List.getElem?_eq_some_iff.1 e).1
  | .plus _, _, ⟨_, e, _⟩ => (List.getElem?_eq_some_iff.1 e).1
  | .quest _, _, ⟨_, e, _⟩ => (List.getElem?_eq_some_iff.1 e).1
theorem get_snoc (ns : List RN) (x : RN) : (ns ++ [x])[ns.length]? = some x := by simp

theorem made_two (k a b : Int) : ((Try.zeroCells68.setIfInBounds 0 (.int .i64 k)).setIfInBounds 257 (.int .i64 a)).setIfInBounds 258 (.int .i64 b) = nodeRow k 0 a b := by kernel_rfl
theorem made_one (k a : Int) : (Try.zeroCells68.setIfInBounds 0 (.int .i64 k)).setIfInBounds 257 (.int .i64 a) = nodeRow k 0 a 0 := by kernel_rfl
theorem made_cls : Try.zeroCells68.setIfInBounds 0 (.int .i64 1) = nodeRow 1 0 0 0 := by kernel_rfl
theorem made_none : Try.zeroCells68 = nodeRow 0 0 0 0 := by kernel_rfl

/-- While a function of the document's reader runs. -/
structure RfMem (w wr : World) (base t : Nat) (s : ByteArray) (d j f : Nat) (ns : List RN) : Prop where
  ex : ∃ v, Rf wr t v s j d f ∧ wr.ownsRow base 68 259 v ns.length (flat ns) ∧ v.ownBlock ≠ some t
  kept : Kept base [t] w wr
  low : base ≤ wr.heap.size
section
variable {w wr w1 : World} {base t d j f : Nat} {s : ByteArray} {ns : List RN}
theorem RfMem.below (h : RfMem w wr base t s d j f ns) (hb : Below wr.heap.size wr w1) : RfMem w w1 base t s d j f ns := by
  obtain ⟨⟨v, h1, h2, h3⟩, hk, hl⟩ := h
  refine ⟨⟨v, h1.below hb, h2.kept (row := none) ⟨hb.os, hb.tape, hb.output, hb.size, fun k hk _ => hb.block k hk⟩ (by cases v.ownBlock <;> simp), h3⟩, hk.trans (.of_below (hb.mono hl)), Nat.le_trans hl hb.size⟩
theorem RfMem.set_ (h : RfMem w wr base t s d j f ns) (o : Nat) (u : Value) {j' d' f' : Nat} (hu : ∀ v, Rf wr t v s j d f → Rf (wr.setCell ⟨t, o, none⟩ u) t v s j' d' f') : RfMem w (wr.setCell ⟨t, o, none⟩ u) base t s d' j' f' ns := by
  obtain ⟨⟨v, h1, h2, h3⟩, hk, hl⟩ := h
  refine ⟨⟨v, hu v h1, ?_, h3⟩, hk.setCell (.inl (by simp)) _, by simpa [World.setCell] using hl⟩
  exact h2.kept (row := some t) ⟨rfl, rfl, rfl, by simp [World.setCell], fun k hk hx => Below.heap_setCell _ _ _ _ (fun e => hx (by rw [e]))⟩ (.inr (by simpa using h3))
theorem RfMem.step (h : RfMem w wr base t s d j f ns) : RfMem w (wr.setCell ⟨t, 2, none⟩ (.int .i64 ((j : Int) + 1))) base t s d (j + 1) f ns :=
  h.set_ 2 _ fun _ h1 => h1.step
theorem Rf.deep {v : Value} (h : Rf wr t v s j d f) (d' : Nat) (x : Int) (hx : x = d') : Rf (wr.setCell ⟨t, 3, none⟩ (.int .i64 x)) t v s j d' f := by
  have := Blk.set_ h 3 (.int .i64 x)
  subst hx
  simpa [Rf, refCells] using this
theorem RfMem.deep (h : RfMem w wr base t s d j f ns) (d' : Nat) (x : Int) (hx : x = d') : RfMem w (wr.setCell ⟨t, 3, none⟩ (.int .i64 x)) base t s d' j f ns :=
  h.set_ 3 _ fun _ h1 => h1.deep d' x hx
theorem RfMem.cell (h : RfMem w wr base t s d j f ns) : wr.cell? ⟨t, 1, none⟩ = some (.string s) ∧ wr.cell? ⟨t, 2, none⟩ = some (.int .i64 j) ∧ wr.cell? ⟨t, 3, none⟩ = some (.int .i64 d) ∧ wr.cell? ⟨t, 4, none⟩ = some (.int .i64 f) ∧ wr.frozen? ⟨t, 2, none⟩ = false ∧ wr.frozen? ⟨t, 3, none⟩ = false := by
  obtain ⟨⟨v, h1, _, _⟩, _⟩ := h
  exact ⟨h1.cell 1, h1.cell 2, h1.cell 3, h1.cell 4, h1.frozen 2, h1.frozen 3⟩
end

theorem rput_mem {w wr : World} {base t d j f : Nat} {s : ByteArray} {ns : List RN} (h : RfMem w wr base t s d j f ns) (x : RN) (n : Nat) (hl : ns.length = n) (hn : n < 1000) :
    Calls Try.prog 31 #[.pointer (some ⟨t, 0, none⟩), .agg (nodeRow x.k x.S x.a x.b)] wr fun e w' => e = .returned (.int .i64 n) ∧ RfMem w w' base t s d j f (ns ++ [x]) := by
  subst hl
  obtain ⟨⟨v, h1, h2, h3⟩, hk, hl⟩ := h
  refine (rput_calls wr base t s j d f ns.length (flat ns) _ (nodeRow_size _ _ _ _) (nodeRow_one _ _ _ _) v h1 h2 h3 hn hl).mono ?_
  rintro e w' ⟨rfl, g, cap, hb, ho, hg, hne, hk'⟩
  refine ⟨rfl, ⟨_, hb, ?_, by simpa [Value.ownBlock] using hne⟩, ?_, Nat.le_trans hl hk'.size⟩
  · rw [flat_snoc, List.length_append]; exact ho
  · refine hk.trans (hk'.mono hl (fun k hkb hm => ?_))
    simp only [List.mem_cons, Option.mem_toList] at hm
    rcases hm with h | h
    · simp [h]
    · have := (h2.lt k h).1; omega
theorem rnext_mem {w wr : World} {base t d j : Nat} {s : ByteArray} {ns : List RN} (h : RfMem w wr base t s d j 0 ns) (l : List UInt8) (r : Int) (hj : j ≤ s.size) (hl : s.data.toList.drop j = l) (hr : nx l = r) :
    Calls Try.prog 41 #[.pointer (some ⟨t, 0, none⟩)] wr fun e w' => e = .returned (.int .i64 r) ∧ Below wr.heap.size wr w' := by
  obtain ⟨⟨v, h1, _⟩, _⟩ := h
  exact next_ok wr t v s j d l r h1 hj hl hr
theorem rnext_bad {w wr : World} {base t d j f : Nat} {s : ByteArray} {ns : List RN} (h : RfMem w wr base t s d j f ns) (hf : f ≠ 0) :
    Calls Try.prog 41 #[.pointer (some ⟨t, 0, none⟩)] wr fun e w' => e = .returned (.int .i64 (-1)) ∧ Below wr.heap.size wr w' := by
  obtain ⟨⟨v, h1, _⟩, _⟩ := h
  exact next_bad wr t v s j d f h1 hf
theorem RfMem.read {w wr w1 : World} {base t d j' f' : Nat} {s : ByteArray} {ns : List RN} {v : Value} (h2 : wr.ownsRow base 68 259 v ns.length (flat ns)) (h3 : v.ownBlock ≠ some t) (hk0 : Kept base [t] w wr) (hl : base ≤ wr.heap.size) (hk : Kept wr.heap.size [t] wr w1) (h1 : Rf w1 t v s j' d f') : RfMem w w1 base t s d j' f' ns :=
  ⟨⟨v, h1, h2.kept (row := some t) ⟨hk.os, hk.tape, hk.output, hk.size, fun k hk' hx => hk.block k hk' (by simpa using fun e => hx (by rw [e]))⟩ (.inr (by simpa using h3)), h3⟩, hk0.trans (hk.mono hl (fun _ _ h => h)), Nat.le_trans hl hk.size⟩
theorem rfail_mem {w wr : World} {base t d j f : Nat} {s : ByteArray} {ns : List RN} (h : RfMem w wr base t s d j f ns) (c : Nat) :
    Calls Try.prog 50 #[.pointer (some ⟨t, 0, none⟩), .int .i64 c] wr fun e w' => e = .returned (.tuple #[]) ∧ RfMem w w' base t s d j (if f = 0 then c else f) ns := by
  obtain ⟨⟨v, h1, h2, h3⟩, hk, hl⟩ := h
  refine (fail_any wr t v s j d f c h1).mono ?_
  rintro e w' ⟨rfl, hk', hr⟩
  exact ⟨rfl, RfMem.read h2 h3 hk hl hk' hr⟩

/-- What the document's reader hands back: the tree's number, or a fault. -/
def RfOut (w : World) (base t : Nat) (s : ByteArray) (d i c c' : Nat) (ns : List RN) (res : Except Nat (Tr × List UInt8)) (e : Ending) (w' : World) : Prop :=
  match res with
  | .ok (u, l) => ∃ n j ns', e = .returned (.int .i64 (n : Nat)) ∧ RfMem w w' base t s d j 0 ns' ∧ NExt ns ns' ∧ NodeIs ns' u n ∧ s.data.toList.drop j = l ∧ j ≤ s.size ∧ i ≤ j ∧ ns'.length + 2 * i + c ≤ ns.length + 2 * j + 1
  | .error x => x ≠ 0 ∧ ∃ n j ns', e = .returned (.int .i64 (n : Nat)) ∧ RfMem w w' base t s d j x ns' ∧ j + d ≤ 87 ∧ ns'.length + 2 * i + c' ≤ ns.length + 130

def RAtomOk (n : Nat) : Prop := ∀ (base t : Nat) (s : ByteArray) (i d : Nat) (ns : List RN) (w : World) (res : Except Nat (Tr × List UInt8)), RfMem w w base t s d i 0 ns → i < s.size → s.size ≤ 64 → d ≤ 16 → ns.length ≤ 300 + 2 * i → run n .atom (s.data.toList.drop i) d = some res →
  Calls Try.prog 56 #[.pointer (some ⟨t, 0, none⟩)] w (RfOut w base t s d i 2 1 ns res)
def RPieceOk (n : Nat) : Prop := ∀ (base t : Nat) (s : ByteArray) (i d : Nat) (ns : List RN) (w : World) (res : Except Nat (Tr × List UInt8)), RfMem w w base t s d i 0 ns → i < s.size → s.size ≤ 64 → d ≤ 16 → ns.length ≤ 300 + 2 * i → run n .piece (s.data.toList.drop i) d = some res →
  Calls Try.prog 51 #[.pointer (some ⟨t, 0, none⟩)] w (RfOut w base t s d i 2 1 ns res)
def RBranchOk (n : Nat) : Prop := ∀ (base t : Nat) (s : ByteArray) (i d : Nat) (ns : List RN) (w : World) (res : Except Nat (Tr × List UInt8)), RfMem w w base t s d i 0 ns → i ≤ s.size → s.size ≤ 64 → d ≤ 16 → ns.length ≤ 300 + 2 * i → run n (.pieces none) (s.data.toList.drop i) d = some res →
  Calls Try.prog 40 #[.pointer (some ⟨t, 0, none⟩)] w (RfOut w base t s d i 0 0 ns res)
def RBranchesOk (n : Nat) : Prop := ∀ (base t : Nat) (s : ByteArray) (i d : Nat) (ns : List RN) (w : World) (res : Except Nat (Tr × List UInt8)), RfMem w w base t s d i 0 ns → i ≤ s.size → s.size ≤ 64 → d ≤ 16 → ns.length ≤ 300 + 2 * i → run n .branches (s.data.toList.drop i) d = some res →
  Calls Try.prog 30 #[.pointer (some ⟨t, 0, none⟩)] w (RfOut w base t s d i 0 0 ns res)

/-- The loop over the strokes. -/
def StrokesRel (w wr : World) (base t : Nat) (s : ByteArray) (d i : Nat) (ns : List RN) (res : Except Nat (Tr × List UInt8)) (m n : Nat) (s3 : Value) : Prop :=
  (∃ u k j ns', s3 = .int .i64 (k : Nat) ∧ m ≤ n ∧ run m (.strokes u) (s.data.toList.drop j) d = some res ∧ RfMem w wr base t s d j 0 ns' ∧ NExt ns ns' ∧ NodeIs ns' u k ∧ j ≤ s.size ∧ i ≤ j ∧ ns'.length + 2 * i ≤ ns.length + 2 * j + 1) ∨
  (∃ x k j ns', s3 = .int .i64 (k : Nat) ∧ res = .error x ∧ x ≠ 0 ∧ RfMem w wr base t s d j x ns' ∧ j + d ≤ 87 ∧ ns'.length + 2 * i ≤ ns.length + 130)
theorem RfMem.from {w w1 w2 : World} {base t d j f : Nat} {s : ByteArray} {ns : List RN} (h : RfMem w1 w2 base t s d j f ns) (hk : Kept base [t] w w1) : RfMem w w2 base t s d j f ns := ⟨h.ex, hk.trans h.kept, h.low⟩
theorem RfMem.here {w w1 : World} {base t d j f : Nat} {s : ByteArray} {ns : List RN} (h : RfMem w w1 base t s d j f ns) : RfMem w1 w1 base t s d j f ns := ⟨h.ex, Kept.refl _ _ _, h.low⟩

set_option maxRecDepth 100000 in
set_option maxHeartbeats 1000000 in
theorem rbranches_calls (n : Nat) (ih : ∀ m, m < n → RBranchOk m) : RBranchesOk n := by
  intro base t s i d ns w res hm hi hs hd hns hrun
  obtain ⟨n, rfl⟩ := run_pos hrun
  rw [run] at hrun
  have IH : Hid (∀ m, m < n + 1 → RBranchOk m) := ih
  clear ih
  obtain ⟨r1, hr1, hst⟩ : ∃ r1, run n (.pieces none) (s.data.toList.drop i) d = some r1 ∧ (∀ w1 e, RfOut w base t s d i 0 0 ns r1 e w1 → ∃ k : Nat, e = .returned (.int .i64 k) ∧ StrokesRel w w1 base t s d i ns res n n (.int .i64 k)) := by
    rcases Res.then_some hrun with ⟨u, l, h1, h2⟩ | ⟨c, h1, rfl⟩
    · refine ⟨_, h1, ?_⟩
      rintro w1 e ⟨k, j, ns', rfl, hm', hx, hn, hl, hj, hij, hb⟩
      exact ⟨k, rfl, .inl ⟨u, k, j, ns', rfl, Nat.le_refl _, by rw [hl]; exact h2, hm', hx, hn, hj, hij, hb⟩⟩
    · refine ⟨_, h1, ?_⟩
      rintro w1 e ⟨hx, k, j, ns', rfl, hm', hj, hb⟩
      exact ⟨k, rfl, .inr ⟨c, k, j, ns', rfl, rfl, hx, hm', hj, hb⟩⟩
  have HR1 := Lib.hid hr1
  have HST := Lib.hid hst
  clear hr1 hst hrun
  go_enter Try.func30, Try.ntmps30
  go_wp2_with fail
  refine (IH.out n (by omega) base t s i d ns _ _ hm hi hs hd hns HR1.out).mono ?_
  intro e w1 hout
  obtain ⟨k, rfl, hrel0⟩ := HST.out _ _ hout
  clear hout HST HR1
  go_wp2_with fail
  go_loopg [3] n (fun m s3 wr => StrokesRel w wr base t s d i ns res m n s3)
  case atStart => exact hrel0
  case round =>
    clear hrel0
    rcases hrel with ⟨u, k, j, ns', rfl, hmn, hrun, hmr, hx, hnode, hj, hij, hbd⟩ | ⟨x, k, j, ns', rfl, hres, hx, hmr, hj, hbd⟩
    · obtain ⟨m, hgk⟩ := run_pos hrun
      obtain ⟨l, hl⟩ : ∃ l, s.data.toList.drop j = l := ⟨_, rfl⟩
      rw [hl, hgk, run] at hrun
      obtain ⟨r1, hr1⟩ : ∃ r, nx l = r := ⟨_, rfl⟩
      have h124 := nx_eq (c := 124) hr1
      have HR1 := Lib.hid hr1
      have HL := Lib.hid hl
      have HGK := Lib.hid hgk
      clear hr1 hgk
      by_cases hc : l.head? = some 124
      · rw [if_pos hc] at hrun
        have e1 : (r1 == 124) = true := by rw [show (124 : Int) = ((124 : UInt8).toNat : Int) from rfl, h124]; simp [hc]
        obtain ⟨hjlt, _, hd2⟩ := drop_some (hl.trans (head_cons hc))
        rw [← hd2] at hrun
        have HR := Lib.hid hrun
        clear hl h124 hc hd2 hrun
        go_wp2_with fail
        refine (rnext_mem hmr l r1 hj HL.out HR1.out).mono ?_
        rintro e w2 ⟨rfl, hb2⟩
        have hm2 := hmr.below hb2
        obtain ⟨_, c2, _, _, f2, _⟩ := hm2.cell
        have hm3 := hm2.step
        obtain ⟨wy, hwy⟩ : ∃ wy, w2.setCell ⟨t, 2, none⟩ (.int .i64 ((j : Int) + 1)) = wy := ⟨_, rfl⟩
        rw [hwy] at hm3
        go_upto_region 4 with fail
        clear hwy c2 f2 hmr hm2 hb2
        obtain ⟨r2, hr2, hst⟩ : ∃ r2, run m (.pieces none) (s.data.toList.drop (j + 1)) d = some r2 ∧ (∀ w1 e, RfOut wy base t s d (j + 1) 0 0 ns' r2 e w1 →
            ∃ (k2 j2 f2 : Nat) (ns2 : List RN), e = .returned (.int .i64 k2) ∧ RfMem w w1 base t s d j2 f2 ns2 ∧ ns2.length + 1 < 1000 ∧ ((∃ v, f2 = 0 ∧ j2 ≤ s.size ∧ j < j2 ∧ NExt ns' ns2 ∧ NodeIs ns2 v k2 ∧ run m (.strokes (.alt u v)) (s.data.toList.drop j2) d = some res ∧ ns2.length + 2 * i + 1 ≤ ns.length + 2 * j2 + 1) ∨ (f2 ≠ 0 ∧ res = .error f2 ∧ j2 + d ≤ 87 ∧ ns2.length + 1 + 2 * i ≤ ns.length + 130))) := by
          rcases Res.then_some HR.out with ⟨v, l, h1, h2⟩ | ⟨c, h1, h2⟩
          · refine ⟨_, h1, ?_⟩
            rintro w1 e ⟨k2, j2, ns2, rfl, hm', hx', hn, hl, hj', hij', hb⟩
            exact ⟨k2, j2, 0, ns2, rfl, hm'.from hm3.kept, by omega, .inl ⟨v, rfl, hj', by omega, hx', hn, by rw [hl]; exact h2, by omega⟩⟩
          · refine ⟨_, h1, ?_⟩
            rintro w1 e ⟨hx', k2, j2, ns2, rfl, hm', hj', hb⟩
            exact ⟨k2, j2, c, ns2, rfl, hm'.from hm3.kept, by omega, .inr ⟨hx', h2, hj', by omega⟩⟩
        have HR2 := Lib.hid hr2
        have HST := Lib.hid hst
        clear hr2 hst HR
        go_wp2_with fail
        refine (IH.out m (by have := HGK.out; omega) base t s (j + 1) d ns' _ _ hm3.here hjlt hs hd (by omega) HR2.out).mono ?_
        intro e w5 hout
        obtain ⟨k2, j2, f2, ns2, rfl, hm5, hlen, hcase⟩ := HST.out _ _ hout
        have HCASE := Lib.hid hcase
        clear hout HST HR2 hcase
        go_wp2_with fail
        rw [made_two]
        refine (rput_mem hm5 ⟨3, 0, k, k2⟩ ns2.length rfl (by omega)).mono ?_
        rintro e w6 ⟨rfl, hm6⟩
        go_wp2
        go_roundg m
        case measure => rw [HGK.out]; omega
        case rel =>
          rcases HCASE.out with ⟨v, rfl, hj2, hjj, hx2, hn2, hr2, hb2⟩ | ⟨hf2, hres, hj2, hb2⟩
          · refine .inl ⟨.alt u v, ns2.length, j2, ns2 ++ [⟨3, 0, k, k2⟩], rfl, by have := HGK.out; omega, hr2, hm6, (hx.trans hx2).trans (NExt.snoc _ _), ⟨k, k2, get_snoc _ _, hnode.more (hx2.trans (NExt.snoc _ _)), hn2.more (NExt.snoc _ _)⟩, hj2, by omega, by simp; omega⟩
          · exact .inr ⟨f2, ns2.length, j2, ns2 ++ [⟨3, 0, k, k2⟩], rfl, hres, hf2, hm6, hj2, by simp; omega⟩
      · rw [if_neg hc] at hrun
        have e1 : (r1 == 124) = false := by rw [show (124 : Int) = ((124 : UInt8).toNat : Int) from rfl, h124]; simp [hc]
        injection hrun with hrun
        have HR := Lib.hid hrun
        clear hl h124 hc hrun
        go_wp2_with fail
        refine (rnext_mem hmr l r1 hj HL.out HR1.out).mono ?_
        rintro e w2 ⟨rfl, hb2⟩
        have hm2 := hmr.below hb2
        go_wp2
        go_ret
        rw [← HR.out]
        exact ⟨k, j, ns', rfl, hm2, hx, hnode, HL.out, hj, hij, by omega⟩
    · have HRES := Lib.hid hres
      clear hres
      go_wp2_with fail
      refine (rnext_bad hmr hx).mono ?_
      rintro e w2 ⟨rfl, hb2⟩
      have hm2 := hmr.below hb2
      go_wp2
      go_ret
      rw [HRES.out]
      exact ⟨hx, k, j, ns', rfl, hm2, hj, hbd⟩

/-- The loop over the signs behind an atom. -/
def SignsRel (w wr : World) (base t : Nat) (s : ByteArray) (d i : Nat) (ns : List RN) (res : Except Nat (Tr × List UInt8)) (m n : Nat) (s3 : Value) : Prop :=
  (∃ u k j ns', s3 = .int .i64 (k : Nat) ∧ m ≤ n ∧ run m (.signs u) (s.data.toList.drop j) d = some res ∧ RfMem w wr base t s d j 0 ns' ∧ NExt ns ns' ∧ NodeIs ns' u k ∧ j ≤ s.size ∧ i ≤ j ∧ ns'.length + 2 * i + 2 ≤ ns.length + 2 * j + 1) ∨
  (∃ x k j ns', s3 = .int .i64 (k : Nat) ∧ res = .error x ∧ x ≠ 0 ∧ RfMem w wr base t s d j x ns' ∧ j + d ≤ 87 ∧ ns'.length + 2 * i + 1 ≤ ns.length + 130)

set_option maxRecDepth 100000 in
set_option maxHeartbeats 1000000 in
theorem rpiece_calls (n : Nat) (ih : ∀ m, m < n → RAtomOk m) : RPieceOk n := by
  intro base t s i d ns w res hm hi hs hd hns hrun
  obtain ⟨n, rfl⟩ := run_pos hrun
  rw [run] at hrun
  have IH : Hid (∀ m, m < n + 1 → RAtomOk m) := ih
  clear ih
  obtain ⟨r1, hr1, hst⟩ : ∃ r1, run n .atom (s.data.toList.drop i) d = some r1 ∧ (∀ w1 e, RfOut w base t s d i 2 1 ns r1 e w1 → ∃ k : Nat, e = .returned (.int .i64 k) ∧ SignsRel w w1 base t s d i ns res n n (.int .i64 k)) := by
    rcases Res.then_some hrun with ⟨u, l, h1, h2⟩ | ⟨c, h1, rfl⟩
    · refine ⟨_, h1, ?_⟩
      rintro w1 e ⟨k, j, ns', rfl, hm', hx, hn, hl, hj, hij, hb⟩
      exact ⟨k, rfl, .inl ⟨u, k, j, ns', rfl, Nat.le_refl _, by rw [hl]; exact h2, hm', hx, hn, hj, hij, hb⟩⟩
    · refine ⟨_, h1, ?_⟩
      rintro w1 e ⟨hx, k, j, ns', rfl, hm', hj, hb⟩
      exact ⟨k, rfl, .inr ⟨c, k, j, ns', rfl, rfl, hx, hm', hj, hb⟩⟩
  have HR1 := Lib.hid hr1
  have HST := Lib.hid hst
  clear hr1 hst hrun
  go_enter Try.func51, Try.ntmps51
  go_wp2_with fail
  refine (IH.out n (by omega) base t s i d ns _ _ hm hi hs hd hns HR1.out).mono ?_
  intro e w1 hout
  obtain ⟨k, rfl, hrel0⟩ := HST.out _ _ hout
  clear hout HST HR1
  go_wp2_with fail
  go_loopg [3] n (fun m s3 wr => SignsRel w wr base t s d i ns res m n s3)
  case atStart => exact hrel0
  case round =>
    clear hrel0
    rcases hrel with ⟨u, k, j, ns', rfl, hmn, hrun, hmr, hx, hnode, hj, hij, hbd⟩ | ⟨x, k, j, ns', rfl, hres, hx, hmr, hj, hbd⟩
    · obtain ⟨m, hgk⟩ := run_pos hrun
      obtain ⟨l, hl⟩ : ∃ l, s.data.toList.drop j = l := ⟨_, rfl⟩
      rw [hl, hgk] at hrun
      have HL := Lib.hid hl
      have HGK := Lib.hid hgk
      clear hgk
      match l, hl, hrun, HL with
      | [], hl, hrun, HL =>
        rw [run] at hrun
        injection hrun with hrun
        have HR := Lib.hid hrun
        clear hl hrun
        go_wp2_with fail
        refine (rnext_mem hmr [] (-1) hj HL.out rfl).mono ?_
        rintro e w2 ⟨rfl, hb2⟩
        have hm2 := hmr.below hb2
        go_wp2
        go_ret
        rw [← HR.out]
        exact ⟨k, j, ns', rfl, hm2, hx, hnode, HL.out, hj, hij, by omega⟩
      | b :: l2, hl, hrun, HL =>
        obtain ⟨hjlt, _, hd2⟩ := drop_some hl
        rw [run] at hrun
        by_cases b42 : b = 42
        · subst b42
          rw [show signOf 42 u = some (.star u) from rfl] at hrun
          simp only [← hd2] at hrun
          have HR := Lib.hid hrun
          clear hl hrun hd2
          go_wp2_with fail
          refine (rnext_mem hmr (42 :: l2) 42 hj HL.out rfl).mono ?_
          rintro e w2 ⟨rfl, hb2⟩
          have hm2 := hmr.below hb2
          go_wp2_with fail
          rw [made_one]
          refine (rput_mem hm2 ⟨4, 0, k, 0⟩ ns'.length rfl (by omega)).mono ?_
          rintro e w3 ⟨rfl, hm3⟩
          obtain ⟨_, c2, _, _, f2, _⟩ := hm3.cell
          have hm4 := hm3.step
          go_wp2
          go_roundg m
          case measure => rw [HGK.out]; omega
          case rel => exact .inl ⟨.star u, ns'.length, j + 1, ns' ++ [⟨4, 0, k, 0⟩], rfl, by have := HGK.out; omega, HR.out, hm4, hx.trans (NExt.snoc _ _), ⟨k, get_snoc _ _, hnode.more (NExt.snoc _ _)⟩, hjlt, by omega, by simp; omega⟩
        by_cases b43 : b = 43
        · subst b43
          rw [show signOf 43 u = some (.plus u) from rfl] at hrun
          simp only [← hd2] at hrun
          have HR := Lib.hid hrun
          clear hl hrun hd2
          go_wp2_with fail
          refine (rnext_mem hmr (43 :: l2) 43 hj HL.out rfl).mono ?_
          rintro e w2 ⟨rfl, hb2⟩
          have hm2 := hmr.below hb2
          go_wp2_with fail
          rw [made_one]
          refine (rput_mem hm2 ⟨5, 0, k, 0⟩ ns'.length rfl (by omega)).mono ?_
          rintro e w3 ⟨rfl, hm3⟩
          obtain ⟨_, c2, _, _, f2, _⟩ := hm3.cell
          have hm4 := hm3.step
          go_wp2
          go_roundg m
          case measure => rw [HGK.out]; omega
          case rel => exact .inl ⟨.plus u, ns'.length, j + 1, ns' ++ [⟨5, 0, k, 0⟩], rfl, by have := HGK.out; omega, HR.out, hm4, hx.trans (NExt.snoc _ _), ⟨k, get_snoc _ _, hnode.more (NExt.snoc _ _)⟩, hjlt, by omega, by simp; omega⟩
        by_cases b63 : b = 63
        · subst b63
          rw [show signOf 63 u = some (.quest u) from rfl] at hrun
          simp only [← hd2] at hrun
          have HR := Lib.hid hrun
          clear hl hrun hd2
          go_wp2_with fail
          refine (rnext_mem hmr (63 :: l2) 63 hj HL.out rfl).mono ?_
          rintro e w2 ⟨rfl, hb2⟩
          have hm2 := hmr.below hb2
          go_wp2_with fail
          rw [made_one]
          refine (rput_mem hm2 ⟨6, 0, k, 0⟩ ns'.length rfl (by omega)).mono ?_
          rintro e w3 ⟨rfl, hm3⟩
          obtain ⟨_, c2, _, _, f2, _⟩ := hm3.cell
          have hm4 := hm3.step
          go_wp2
          go_roundg m
          case measure => rw [HGK.out]; omega
          case rel => exact .inl ⟨.quest u, ns'.length, j + 1, ns' ++ [⟨6, 0, k, 0⟩], rfl, by have := HGK.out; omega, HR.out, hm4, hx.trans (NExt.snoc _ _), ⟨k, get_snoc _ _, hnode.more (NExt.snoc _ _)⟩, hjlt, by omega, by simp; omega⟩
        · have hsn : signOf b u = none := by simp [signOf, b42, b43, b63]
          rw [hsn] at hrun
          have e42 : ((b.toNat : Int) == 42) = false := u8_ne (c := 42) b42
          have e43 : ((b.toNat : Int) == 43) = false := u8_ne (c := 43) b43
          have e63 : ((b.toNat : Int) == 63) = false := u8_ne (c := 63) b63
          injection hrun with hrun
          have HR := Lib.hid hrun
          clear hl hrun hsn hd2 b42 b43 b63
          go_wp2_with fail
          refine (rnext_mem hmr (b :: l2) b.toNat hj HL.out rfl).mono ?_
          rintro e w2 ⟨rfl, hb2⟩
          have hm2 := hmr.below hb2
          go_wp2
          go_ret
          rw [← HR.out]
          exact ⟨k, j, ns', rfl, hm2, hx, hnode, HL.out, hj, hij, by omega⟩
    · have HRES := Lib.hid hres
      clear hres
      go_wp2_with fail
      refine (rnext_bad hmr hx).mono ?_
      rintro e w2 ⟨rfl, hb2⟩
      have hm2 := hmr.below hb2
      go_wp2
      go_ret
      rw [HRES.out]
      exact ⟨hx, k, j, ns', rfl, hm2, hj, hbd⟩

/-- The number of the tree so far, if there is one. -/
def OptNode (ns : List RN) (o : Option Tr) (v : Value) : Prop :=
  match o with
  | none => v = .int .i64 (-1)
  | some u => ∃ k : Nat, v = .int .i64 k ∧ NodeIs ns u k
/-- The loop over the pieces. -/
def PiecesRel (w wr : World) (base t : Nat) (s : ByteArray) (d i : Nat) (ns : List RN) (res : Except Nat (Tr × List UInt8)) (m n : Nat) (s3 : Value) : Prop :=
  (∃ o j ns', OptNode ns' o s3 ∧ m ≤ n ∧ run m (.pieces o) (s.data.toList.drop j) d = some res ∧ RfMem w wr base t s d j 0 ns' ∧ NExt ns ns' ∧ j ≤ s.size ∧ i ≤ j ∧ ns'.length + 2 * i ≤ ns.length + 2 * j) ∨
  (∃ x k j ns', s3 = .int .i64 (k : Nat) ∧ res = .error x ∧ x ≠ 0 ∧ RfMem w wr base t s d j x ns' ∧ j + d ≤ 87 ∧ ns'.length + 2 * i ≤ ns.length + 130)

set_option maxRecDepth 100000 in
set_option maxHeartbeats 2000000 in
theorem rbranch_calls (n : Nat) (ih : ∀ m, m < n → RPieceOk m) : RBranchOk n := by
  intro base t s i d ns w res hm hi hs hd hns hrun
  have IH : Hid (∀ m, m < n → RPieceOk m) := ih
  have H0 := Lib.hid hrun
  clear ih hrun
  go_enter Try.func40, Try.ntmps40
  go_wp2_with fail
  go_loopg [3] n (fun m s3 wr => PiecesRel w wr base t s d i ns res m n s3)
  case atStart => exact .inl ⟨none, i, ns, rfl, Nat.le_refl _, H0.out, hm, NExt.refl _, hi, Nat.le_refl _, by omega⟩
  case round =>
    rcases hrel with ⟨o, j, ns', ho, hmn, hrun, hmr, hx, hj, hij, hbd⟩ | ⟨x, k, j, ns', rfl, hres, hx, hmr, hj, hbd⟩
    · obtain ⟨m, hgk⟩ := run_pos hrun
      obtain ⟨l, hl⟩ : ∃ l, s.data.toList.drop j = l := ⟨_, rfl⟩
      rw [hl, hgk] at hrun
      have HL := Lib.hid hl
      have HGK := Lib.hid hgk
      clear hgk
      match l, hl, hrun, HL with
      | [], hl, hrun, HL =>
        rw [run] at hrun
        injection hrun with hrun
        have HR := Lib.hid hrun
        clear hl hrun
        go_wp2_with fail
        refine (rnext_mem hmr [] (-1) hj HL.out rfl).mono ?_
        rintro e w2 ⟨rfl, hb2⟩
        have hm2 := hmr.below hb2
        cases o with
        | none =>
          obtain rfl : u3 = .int .i64 (-1) := ho
          go_wp2_with fail
          rw [made_none]
          refine (rput_mem hm2 ⟨0, 0, 0, 0⟩ ns'.length rfl (by omega)).mono ?_
          rintro e w3 ⟨rfl, hm3⟩
          go_wp2
          go_ret
          rw [← HR.out]
          exact ⟨ns'.length, j, _, rfl, hm3, hx.trans (NExt.snoc _ _), get_snoc _ _, HL.out, hj, hij, by simp; omega⟩
        | some u =>
          obtain ⟨k, rfl, hnode⟩ := ho
          go_wp2
          go_ret
          rw [← HR.out]
          exact ⟨k, j, ns', rfl, hm2, hx, hnode, HL.out, hj, hij, by omega⟩
      | b :: l2, hl, hrun, HL =>
        obtain ⟨hjlt, _, hd2⟩ := drop_some hl
        clear hd2
        rw [run] at hrun
        by_cases b41 : b = 41
        · subst b41
          by_cases hd0 : d = 0
          · subst hd0
            rw [if_pos ⟨rfl, rfl⟩] at hrun
            injection hrun with hrun
            have HR := Lib.hid hrun
            clear hl hrun
            go_wp2_with fail
            refine (rnext_mem hmr (41 :: l2) 41 hj HL.out rfl).mono ?_
            rintro e w2 ⟨rfl, hb2⟩
            have hm2 := hmr.below hb2
            obtain ⟨_, _, c3, _, _, _⟩ := hm2.cell
            go_wp2_with fail
            refine (rfail_mem hm2 62).mono ?_
            rintro e w3 ⟨rfl, hm3⟩
            rw [if_pos rfl] at hm3
            cases o with
            | none =>
              obtain rfl : u3 = .int .i64 (-1) := ho
              go_wp2_with fail
              rw [made_none]
              refine (rput_mem hm3 ⟨0, 0, 0, 0⟩ ns'.length rfl (by omega)).mono ?_
              rintro e w4 ⟨rfl, hm4⟩
              go_wp2
              go_ret
              rw [← HR.out]
              exact ⟨by omega, ns'.length, j, _, rfl, hm4, by omega, by simp; omega⟩
            | some u =>
              obtain ⟨k, rfl, hnode⟩ := ho
              go_wp2
              go_ret
              rw [← HR.out]
              exact ⟨by omega, k, j, ns', rfl, hm3, by omega, by omega⟩
          · rw [if_neg (by simp [hd0]), if_pos (.inr rfl)] at hrun
            injection hrun with hrun
            have HR := Lib.hid hrun
            have e0 : ((d : Int) == 0) = false := by simp; omega
            clear hl hrun hd0
            go_wp2_with fail
            refine (rnext_mem hmr (41 :: l2) 41 hj HL.out rfl).mono ?_
            rintro e w2 ⟨rfl, hb2⟩
            have hm2 := hmr.below hb2
            obtain ⟨_, _, c3, _, _, _⟩ := hm2.cell
            cases o with
            | none =>
              obtain rfl : u3 = .int .i64 (-1) := ho
              go_wp2_with fail
              rw [made_none]
              refine (rput_mem hm2 ⟨0, 0, 0, 0⟩ ns'.length rfl (by omega)).mono ?_
              rintro e w3 ⟨rfl, hm3⟩
              go_wp2
              go_ret
              rw [← HR.out]
              exact ⟨ns'.length, j, _, rfl, hm3, hx.trans (NExt.snoc _ _), get_snoc _ _, HL.out, hj, hij, by simp; omega⟩
            | some u =>
              obtain ⟨k, rfl, hnode⟩ := ho
              go_wp2
              go_ret
              rw [← HR.out]
              exact ⟨k, j, ns', rfl, hm2, hx, hnode, HL.out, hj, hij, by omega⟩
        · rw [if_neg (by simp [b41])] at hrun
          have e41 : ((b.toNat : Int) == 41) = false := u8_ne (c := 41) b41
          by_cases b124 : b = 124
          · subst b124
            rw [if_pos (.inl rfl)] at hrun
            injection hrun with hrun
            have HR := Lib.hid hrun
            clear hl hrun e41 b41
            go_wp2_with fail
            refine (rnext_mem hmr (124 :: l2) 124 hj HL.out rfl).mono ?_
            rintro e w2 ⟨rfl, hb2⟩
            have hm2 := hmr.below hb2
            cases o with
            | none =>
              obtain rfl : u3 = .int .i64 (-1) := ho
              go_wp2_with fail
              rw [made_none]
              refine (rput_mem hm2 ⟨0, 0, 0, 0⟩ ns'.length rfl (by omega)).mono ?_
              rintro e w3 ⟨rfl, hm3⟩
              go_wp2
              go_ret
              rw [← HR.out]
              exact ⟨ns'.length, j, _, rfl, hm3, hx.trans (NExt.snoc _ _), get_snoc _ _, HL.out, hj, hij, by simp; omega⟩
            | some u =>
              obtain ⟨k, rfl, hnode⟩ := ho
              go_wp2
              go_ret
              rw [← HR.out]
              exact ⟨k, j, ns', rfl, hm2, hx, hnode, HL.out, hj, hij, by omega⟩
          · rw [if_neg (by simp [b41, b124])] at hrun
            have e124 : ((b.toNat : Int) == 124) = false := u8_ne (c := 124) b124
            have eneg : decide ((b.toNat : Int) < 0) = false := by simp
            rw [← hl] at hrun
            have HR := Lib.hid hrun
            clear hl hrun b41 b124
            go_wp2_with fail
            refine (rnext_mem hmr (b :: l2) b.toNat hj HL.out rfl).mono ?_
            rintro e w2 ⟨rfl, hb2⟩
            have hm2 := hmr.below hb2
            obtain ⟨r2, hr2, hst⟩ : ∃ r2, run m .piece (s.data.toList.drop j) d = some r2 ∧ (∀ w1 e, RfOut w2 base t s d j 2 1 ns' r2 e w1 →
                ∃ (k2 j2 f2 : Nat) (ns2 : List RN), e = .returned (.int .i64 k2) ∧ RfMem w w1 base t s d j2 f2 ns2 ∧ ns2.length + 1 < 1000 ∧ ((∃ v, f2 = 0 ∧ j2 ≤ s.size ∧ j ≤ j2 ∧ NExt ns' ns2 ∧ NodeIs ns2 v k2 ∧ run m (.pieces (some (catOf o v))) (s.data.toList.drop j2) d = some res ∧ ns2.length + 2 * i + 1 ≤ ns.length + 2 * j2) ∨ (f2 ≠ 0 ∧ res = .error f2 ∧ j2 + d ≤ 87 ∧ ns2.length + 1 + 2 * i ≤ ns.length + 130))) := by
              rcases Res.then_some HR.out with ⟨v, l, h1, h2⟩ | ⟨c, h1, h2⟩
              · refine ⟨_, h1, ?_⟩
                rintro w1 e ⟨k2, j2, ns2, rfl, hm', hx', hn, hl, hj', hij', hb⟩
                exact ⟨k2, j2, 0, ns2, rfl, hm'.from hm2.kept, by omega, .inl ⟨v, rfl, hj', hij', hx', hn, by rw [hl]; exact h2, by omega⟩⟩
              · refine ⟨_, h1, ?_⟩
                rintro w1 e ⟨hx', k2, j2, ns2, rfl, hm', hj', hb⟩
                exact ⟨k2, j2, c, ns2, rfl, hm'.from hm2.kept, by omega, .inr ⟨hx', h2, hj', by omega⟩⟩
            have HR2 := Lib.hid hr2
            have HST := Lib.hid hst
            clear hr2 hst HR
            go_wp2_with fail
            refine (IH.out m (by have := HGK.out; omega) base t s j d ns' _ _ hm2.here hjlt hs hd (by omega) HR2.out).mono ?_
            intro e w5 hout
            obtain ⟨k2, j2, f2, ns2, rfl, hm5, hlen, hcase⟩ := HST.out _ _ hout
            have HCASE := Lib.hid hcase
            clear hout HST HR2 hcase
            cases o with
            | none =>
              obtain rfl : u3 = .int .i64 (-1) := ho
              go_wp2
              go_roundg m
              case measure => rw [HGK.out]; omega
              case rel =>
                rcases HCASE.out with ⟨v, rfl, hj2, hjj, hx2, hn2, hr2, hb2⟩ | ⟨hf2, hres, hj2, hb2⟩
                · exact .inl ⟨some v, j2, ns2, ⟨k2, rfl, hn2⟩, by have := HGK.out; omega, hr2, hm5, hx.trans hx2, hj2, by omega, by omega⟩
                · exact .inr ⟨f2, k2, j2, ns2, rfl, hres, hf2, hm5, hj2, by omega⟩
            | some u =>
              obtain ⟨k, rfl, hnode⟩ := ho
              go_wp2_with fail
              rw [made_two]
              refine (rput_mem hm5 ⟨2, 0, k, k2⟩ ns2.length rfl (by omega)).mono ?_
              rintro e w6 ⟨rfl, hm6⟩
              go_wp2
              go_roundg m
              case measure => rw [HGK.out]; omega
              case rel =>
                rcases HCASE.out with ⟨v, rfl, hj2, hjj, hx2, hn2, hr2, hb2⟩ | ⟨hf2, hres, hj2, hb2⟩
                · exact .inl ⟨some (.cat u v), j2, ns2 ++ [⟨2, 0, k, k2⟩], ⟨ns2.length, rfl, k, k2, get_snoc _ _, hnode.more (hx2.trans (NExt.snoc _ _)), hn2.more (NExt.snoc _ _)⟩, by have := HGK.out; omega, hr2, hm6, (hx.trans hx2).trans (NExt.snoc _ _), hj2, by omega, by simp; omega⟩
                · exact .inr ⟨f2, ns2.length, j2, ns2 ++ [⟨2, 0, k, k2⟩], rfl, hres, hf2, hm6, hj2, by simp; omega⟩
    · have HRES := Lib.hid hres
      clear hres
      go_wp2_with fail
      refine (rnext_bad hmr hx).mono ?_
      rintro e w2 ⟨rfl, hb2⟩
      have hm2 := hmr.below hb2
      have hk0 : decide ((k : Int) < 0) = false := by simp
      go_wp2
      go_ret
      rw [HRES.out]
      exact ⟨hx, k, j, ns', rfl, hm2, hj, hbd⟩
end Go.Proofs.Ytlmnincllndpnaa
