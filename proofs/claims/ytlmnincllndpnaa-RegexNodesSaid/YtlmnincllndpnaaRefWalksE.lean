/- The walk of the document's atom; all of the document's reader together. -/
import Derived.Test.YtlmnincllndpnaaRefWalksD
import Derived.Laws.CopyOwn
namespace Go.Proofs.Ytlmnincllndpnaa
open Go.RowKit
attribute [local go_sem ↓] Go.wp_at_zero Go.wp_at_succ
attribute [local go_sem] Later.cell Later.frozen
attribute [-go_sem] loadCells

theorem row_made {P : Program} (w : World) (t : TypeId) (old : Array Value) (cs : List Value) (hs : cs.length = old.size) (h1 : ∀ v ∈ cs, v.oneCell' = true) :
    ∃ w', (storeCells ⟨w.heap.size, 0, none⟩ cs).run P (w.alloc (.cells old t)) = .ok () w' ∧ Below w.heap.size w w' ∧ Blk w' w.heap.size t cs.toArray := by
  have hg : (w.alloc (.cells old t)).heap[w.heap.size]? = some (.cells old t (0, 0)) := heap_alloc_new w _
  have := run_storeCells_from (P := P) w.heap.size t cs 0 old (w.alloc (.cells old t)) hg (by omega) h1
  refine ⟨_, this, below_setRow ((Below.refl _ _).alloc (Nat.le_refl _) _) (Nat.le_refl _) _, ?_⟩
  simp only [List.take_zero, List.nil_append]
  exact setRow_heap _ _ _ _ _ _ hg
theorem ownsRow_at {w w' : World} {base n size : Nat} {e : TypeId} {v : Value} {xs : List Value} (h : w.ownsRow base e size v n xs) (hk : ∀ g, v.ownBlock = some g → w'.heap[g]? = w.heap[g]?) : w'.ownsRow base e size v n xs := by
  refine ⟨h.1, ?_⟩
  rcases h.2 with hn | ⟨g, cap, cur, rfl, hb, hgg, rest⟩
  · exact .inl hn
  · exact .inr ⟨g, cap, cur, rfl, hb, (hk g rfl).trans hgg, rest⟩

/-- In an atom: the new node at block p. -/
structure RAtomMem (w wr : World) (base t : Nat) (s : ByteArray) (d j f : Nat) (ns : List RN) (p S : Nat) : Prop where
  ex : ∃ v, Rf wr t v s j d f ∧ wr.ownsRow base 68 259 v ns.length (flat ns) ∧ v.ownBlock ≠ some t ∧ v.ownBlock ≠ some p
  kept : Kept base [t] w wr
  low : base ≤ p
  node : Blk wr p 68 (nodeRow 1 S 0 0)
  ne : p ≠ t
  lt : S < 2 ^ 256
section
variable {w wr w1 : World} {base t d j f p S : Nat} {s : ByteArray} {ns : List RN}
theorem RAtomMem.mem (h : RAtomMem w wr base t s d j f ns p S) : RfMem w wr base t s d j f ns := by
  obtain ⟨v, h1, h2, h3, _⟩ := h.ex
  exact ⟨⟨v, h1, h2, h3⟩, h.kept, by have := h.node.lt; have := h.low; omega⟩
theorem RAtomMem.then_ {j' f' S' : Nat} (h : RAtomMem w wr base t s d j f ns p S) {v : Value} (h2 : wr.ownsRow base 68 259 v ns.length (flat ns)) (h3 : v.ownBlock ≠ some t) (h4 : v.ownBlock ≠ some p) (hk : Kept wr.heap.size [t, p] wr w1) (hr : Rf w1 t v s j' d f') (hn : Blk w1 p 68 (nodeRow 1 S' 0 0)) (hS : S' < 2 ^ 256) : RAtomMem w w1 base t s d j' f' ns p S' := by
  refine ⟨⟨v, hr, ownsRow_at h2 (fun g hg => hk.block g (h2.lt g hg).2 ?_), h3, h4⟩, h.kept.trans (hk.mono h.mem.low ?_), h.low, hn, h.ne, hS⟩
  · simp only [List.mem_cons, List.not_mem_nil, or_false, not_or]
    exact ⟨fun e => h3 (by rw [hg, e]), fun e => h4 (by rw [hg, e])⟩
  · intro k hk hm
    have := h.low
    simp at hm ⊢
    omega
theorem RAtomMem.mark {m : Nat} {S' : Nat} (h : RAtomMem w wr base t s d j f ns p S) (x : Bool) (hm : m < 256) (hS : S' < 2 ^ 256) (hx : ∀ i, i < 256 → S'.testBit i = if i = m then x else S.testBit i) :
    RAtomMem w (wr.setCell ⟨p, 1 + m, none⟩ (.bool x)) base t s d j f ns p S' := by
  obtain ⟨v, h1, h2, h3, h4⟩ := h.ex
  refine h.then_ h2 h3 h4 ((Kept.refl _ _ _).setCell (.inl (by simp)) _) (Blk.far h1 (by simpa using h.ne.symm) _) ?_ hS
  have := h.node.set_ (1 + m) (.bool x)
  rw [nodeRow_put _ S S' _ _ m x hm hx] at this
  exact this
theorem RAtomMem.fill (h : RAtomMem w wr base t s d j f ns p S) : p < wr.heap.size := h.node.lt
end
theorem putR_mark (S b : Nat) : ∀ i, i < 256 → (putR S b b).testBit i = if i = b then true else S.testBit i := by
  intro i _
  rw [testBit_putR]
  by_cases e : i = b
  · subst e; simp
  · have : ¬ (b ≤ i ∧ i ≤ b) := by omega
    simp [e, this]
theorem afail_mem {w wr : World} {base t d j f p S : Nat} {s : ByteArray} {ns : List RN} (h : RAtomMem w wr base t s d j f ns p S) (c : Nat) :
    Calls Try.prog 50 #[.pointer (some ⟨t, 0, none⟩), .int .i64 c] wr fun e w' => e = .returned (.tuple #[]) ∧ RAtomMem w w' base t s d j (if f = 0 then c else f) ns p S := by
  obtain ⟨v, h1, h2, h3, h4⟩ := h.ex
  refine (fail_any wr t v s j d f c h1).mono ?_
  rintro e w' ⟨rfl, hk', hr⟩
  exact ⟨rfl, h.then_ h2 h3 h4 (hk'.mono (Nat.le_refl _) (fun k _ hm => by simp at hm; simp [hm])) hr (h.node.kept hk' h.node.lt (by simpa using h.ne)) h.lt⟩
theorem aescaped_nil {w wr : World} {base t d j p S : Nat} {s : ByteArray} {ns : List RN} (h : RAtomMem w wr base t s d j 0 ns p S) (hj : j ≤ s.size) (hl : s.data.toList.drop j = []) :
    Calls Try.prog 63 #[.pointer (some ⟨t, 0, none⟩)] wr fun e w' => e = .returned (.int .i64 0) ∧ RAtomMem w w' base t s d j 65 ns p S := by
  obtain ⟨v, h1, h2, h3, h4⟩ := h.ex
  refine (rescaped_nil wr t v s j d h1 hj hl).mono ?_
  rintro e w' ⟨rfl, hk', hr⟩
  exact ⟨rfl, h.then_ h2 h3 h4 (hk'.mono (Nat.le_refl _) (fun k _ hm => by simp at hm; simp [hm])) hr (h.node.kept hk' h.node.lt (by simpa using h.ne)) h.lt⟩
theorem aescaped_cons {w wr : World} {base t d j p S : Nat} {s : ByteArray} {ns : List RN} (h : RAtomMem w wr base t s d j 0 ns p S) (hs : s.size ≤ 64) (c : UInt8) (l : List UInt8) (hl : s.data.toList.drop j = c :: l) :
    Calls Try.prog 63 #[.pointer (some ⟨t, 0, none⟩)] wr fun e w' => e = .returned (.int .i64 c.toNat) ∧ RAtomMem w w' base t s d (j + 1) 0 ns p S := by
  obtain ⟨v, h1, h2, h3, h4⟩ := h.ex
  refine (rescaped_cons wr t v s j d c l h1 hs hl).mono ?_
  rintro e w' ⟨rfl, hk', hr⟩
  exact ⟨rfl, h.then_ h2 h3 h4 (hk'.mono (Nat.le_refl _) (fun k _ hm => by simp at hm; simp [hm])) hr (h.node.kept hk' h.node.lt (by simpa using h.ne)) h.lt⟩
/-- What stands ahead of the last step of an atom. -/
def AtomEnd (w wr : World) (base t : Nat) (s : ByteArray) (d i : Nat) (ns : List RN) (p : Nat) (res : Except Nat (Tr × List UInt8)) : Prop :=
  ∃ S j f, RAtomMem w wr base t s d j f ns p S ∧ ((f = 0 ∧ ∃ l, res = .ok (.cls S, l) ∧ s.data.toList.drop j = l ∧ j ≤ s.size ∧ i < j) ∨ (f ≠ 0 ∧ res = .error f ∧ j + d ≤ 87))
theorem aclass_mem {w wr : World} {base t d i j p n : Nat} {s : ByteArray} {ns : List RN} {res : Except Nat (Tr × List UInt8)} (h : RAtomMem w wr base t s d j 0 ns p 0) (hs : s.size ≤ 64) (hj : j ≤ s.size) (hij : i < j) (hd : d ≤ 16) (hc : classF n (s.data.toList.drop j) = some res) :
    Calls Try.prog 62 #[.pointer (some ⟨t, 0, none⟩), .pointer (some ⟨p, 0, none⟩)] wr fun e w' => e = .returned (.tuple #[]) ∧ AtomEnd w w' base t s d i ns p res := by
  obtain ⟨v, h1, h2, h3, h4⟩ := h.ex
  refine (rclass_calls n t p v s j d wr res ⟨Kept.refl _ _ _, h1, h.node, Nat.two_pow_pos 256⟩ hj h.ne hs hc).mono ?_
  intro e w' hout
  cases res with
  | ok ul =>
    obtain ⟨u, l⟩ := ul
    obtain ⟨S, j', rfl, hl, hj', rfl, hm⟩ := hout
    refine ⟨rfl, S, j', 0, h.then_ h2 h3 h4 hm.kept hm.rf hm.node hm.lt, .inl ⟨rfl, l, rfl, hl, hj', ?_⟩⟩
    have := classF_len hc
    rw [← hl] at this
    simp at this
    omega
  | error c =>
    obtain ⟨hc0, S, j', rfl, hj', hm⟩ := hout
    exact ⟨rfl, S, j', c, h.then_ h2 h3 h4 hm.kept hm.rf hm.node hm.lt, .inr ⟨hc0, rfl, by omega⟩⟩

set_option maxRecDepth 100000 in
set_option maxHeartbeats 2000000 in
theorem ratom_calls (n : Nat) (ih : ∀ m, m < n → RBranchesOk m) : RAtomOk n := by
  intro base t s i d ns w res hm hi hs hd hns hrun
  obtain ⟨n, rfl⟩ := run_pos hrun
  have IH : Hid (∀ m, m < n + 1 → RBranchesOk m) := ih
  clear ih
  obtain ⟨l, hl⟩ : ∃ l, s.data.toList.drop i = l := ⟨_, rfl⟩
  match l, hl with
  | [], hl => have := drop_none (Nat.le_of_lt hi) hl; omega
  | b :: l, hl =>
    rw [hl, run_atom] at hrun
    obtain ⟨_, _, hl'⟩ := drop_some hl
    have HRUN := Lib.hid hrun
    have HL := Lib.hid hl
    have HL' := Lib.hid hl'
    clear hrun hl hl'
    go_enter Try.func56, Try.ntmps56
    go_wp2_with fail
    refine (rnext_mem hm (b :: l) b.toNat (Nat.le_of_lt hi) HL.out rfl).mono ?_
    rintro e w1 ⟨rfl, hb1⟩
    have hm1 := hm.below hb1
    obtain ⟨_, c2, _, _, f2, _⟩ := hm1.cell
    have hm2 := hm1.step
    go_upto_region 3 with fail
    obtain ⟨wy, hwy⟩ : ∃ wy, w1.setCell ⟨t, 2, none⟩ (.int .i64 ((i : Int) + 1)) = wy := ⟨_, rfl⟩
    rw [hwy] at hm2 ⊢
    clear hwy c2 f2 hm1 hb1
    obtain ⟨wx, hrow, hbx, hnx⟩ := row_made (P := Try.prog) wy 68 Try.zeroCells68 (Try.zeroCells68.toList.set 0 (.int .i64 1)) (by simp) (by
      have := nodeRow_one 1 0 0 0
      rw [← made_cls] at this
      simpa using this)
    have hnode : Blk wx wy.heap.size 68 (nodeRow 1 0 0 0) := by
      rw [← made_cls]
      have e : (Try.zeroCells68.toList.set 0 (.int .i64 1)).toArray = Try.zeroCells68.setIfInBounds 0 (.int .i64 1) := by apply Array.ext'; rw [Array.toList_setIfInBounds]
      rw [← e]; exact hnx
    have hma : RAtomMem w wx base t s d (i + 1) 0 ns wy.heap.size 0 := by
      obtain ⟨v, h1, h2, h3⟩ := hm2.ex
      have htl := h1.lt
      exact ⟨⟨v, h1.below hbx, ownsRow_at h2 (fun g hg => hbx.block g (h2.lt g hg).2), h3, fun e => by have := (h2.lt _ e).2; omega⟩, hm2.kept.trans (.of_below (hbx.mono hm2.low)), hm2.low, hnode, by omega, Nat.two_pow_pos 256⟩
    clear hnx hnode
    go_upto_region 4 with fail
    obtain ⟨p, hp⟩ : ∃ p, wy.heap.size = p := ⟨_, rfl⟩
    rw [hp] at hma ⊢
    clear hp hrow hbx hm2
    go_upto_block 0 with fail
    go_cut [3] (fun s3 wz => AtomEnd w wz base t s d i ns p res)
    case first =>
      by_cases b42 : b = 42
      · subst b42
        have hres : res = .error 64 := by have := HRUN.out; simp only [true_or, or_true, if_true] at this; injection this with this; exact this.symm
        have HRES := Lib.hid hres
        clear hres
        go_wp2_with fail
        refine (afail_mem hma 64).mono ?_
        rintro e w2 ⟨rfl, hm2⟩
        rw [if_pos rfl] at hm2
        go_wp2
        go_meet
        exact ⟨0, i + 1, 64, hm2, .inr ⟨by omega, HRES.out, by omega⟩⟩
      by_cases b43 : b = 43
      · subst b43
        have hres : res = .error 64 := by have := HRUN.out; simp only [true_or, or_true, if_true] at this; injection this with this; exact this.symm
        have HRES := Lib.hid hres
        clear hres
        go_wp2_with fail
        refine (afail_mem hma 64).mono ?_
        rintro e w2 ⟨rfl, hm2⟩
        rw [if_pos rfl] at hm2
        go_wp2
        go_meet
        exact ⟨0, i + 1, 64, hm2, .inr ⟨by omega, HRES.out, by omega⟩⟩
      by_cases b63 : b = 63
      · subst b63
        have hres : res = .error 64 := by have := HRUN.out; simp only [true_or, or_true, if_true] at this; injection this with this; exact this.symm
        have HRES := Lib.hid hres
        clear hres
        go_wp2_with fail
        refine (afail_mem hma 64).mono ?_
        rintro e w2 ⟨rfl, hm2⟩
        rw [if_pos rfl] at hm2
        go_wp2
        go_meet
        exact ⟨0, i + 1, 64, hm2, .inr ⟨by omega, HRES.out, by omega⟩⟩
      have hrun := HRUN.out
      rw [if_neg (by simp [b42, b43, b63])] at hrun
      have e42 : ((b.toNat : Int) == 42) = false := u8_ne (c := 42) b42
      have e43 : ((b.toNat : Int) == 43) = false := u8_ne (c := 43) b43
      have e63 : ((b.toNat : Int) == 63) = false := u8_ne (c := 63) b63
      clear HRUN b42 b43 b63
      by_cases b40 : b = 40
      · subst b40
        rw [if_pos rfl] at hrun
        obtain ⟨_, _, c3, _, _, f3⟩ := hma.mem.cell
        by_cases hd16 : d < 16
        · rw [if_pos hd16] at hrun
          have e16 : decide ((16 : Int) ≤ (d : Int)) = false := by simp; omega
          have hdl := hma.mem.deep (d + 1) ((d : Int) + 1) (by omega)
          obtain ⟨wq, hwq⟩ : ∃ wq, wx.setCell ⟨t, 3, none⟩ (.int .i64 ((d : Int) + 1)) = wq := ⟨_, rfl⟩
          rw [hwq] at hdl
          obtain ⟨r2, hr2, hst⟩ : ∃ r2, run n .branches (s.data.toList.drop (i + 1)) (d + 1) = some r2 ∧ (∀ w1 e, RfOut wq base t s (d + 1) (i + 1) 0 0 ns r2 e w1 →
              ∃ (k2 j2 f2 : Nat) (ns2 : List RN), e = .returned (.int .i64 k2) ∧ RfMem w w1 base t s (d + 1) j2 f2 ns2 ∧ j2 ≤ 87 ∧ ((∃ u l2, f2 = 0 ∧ j2 ≤ s.size ∧ i + 1 ≤ j2 ∧ NExt ns ns2 ∧ NodeIs ns2 u k2 ∧ s.data.toList.drop j2 = l2 ∧ some res = (match l2 with | [] => some (.error 61) | _ :: l3 => some (.ok (u, l3))) ∧ ns2.length + 2 * (i + 1) ≤ ns.length + 2 * j2 + 1) ∨ (f2 ≠ 0 ∧ res = .error f2 ∧ j2 + (d + 1) ≤ 87 ∧ ns2.length + 2 * (i + 1) ≤ ns.length + 130))) := by
            rw [HL'.out]
            rcases Res.then_some hrun with ⟨u, l2, g1, g2⟩ | ⟨c, g1, g2⟩
            · refine ⟨_, g1, ?_⟩
              rintro w1 e ⟨k2, j2, ns2, rfl, hm', hx', hn, hl, hj', hij', hb⟩
              exact ⟨k2, j2, 0, ns2, rfl, hm'.from hdl.kept, by omega, .inl ⟨u, l2, rfl, hj', hij', hx', hn, hl, g2.symm, hb⟩⟩
            · refine ⟨_, g1, ?_⟩
              rintro w1 e ⟨hx', k2, j2, ns2, rfl, hm', hj', hb⟩
              exact ⟨k2, j2, c, ns2, rfl, hm'.from hdl.kept, by omega, .inr ⟨hx', g2, hj', hb⟩⟩
          have HR2 := Lib.hid hr2
          have HST := Lib.hid hst
          clear hr2 hst hrun
          go_wp2_with fail
          clear hwq c3 f3
          refine (IH.out n (by omega) base t s (i + 1) (d + 1) ns _ _ hdl.here hi hs (by omega) (by omega) HR2.out).mono ?_
          intro e w5 hout
          obtain ⟨k2, j2, f2, ns2, rfl, hm5, hj87, hcase⟩ := HST.out _ _ hout
          have HCASE := Lib.hid hcase
          clear hout HST HR2 hcase hdl hma
          rcases HCASE.out with ⟨u, l2, rfl, hj2, hij2, hx2, hn2, hl2, hr2, hb2⟩ | ⟨hf2, hres, hj2, hb2⟩
          · have HL2 := Lib.hid hl2
            have HR2 := Lib.hid hr2
            clear hl2 hr2 HCASE
            match l2, HL2, HR2 with
            | [], HL2, HR2 =>
              go_wp2_with fail
              refine (rnext_mem hm5 [] (-1) hj2 HL2.out rfl).mono ?_
              rintro e w6 ⟨rfl, hb6⟩
              have hm6 := hm5.below hb6
              go_wp2_with fail
              refine (rfail_mem hm6 61).mono ?_
              rintro e w7 ⟨rfl, hm7⟩
              rw [if_pos rfl] at hm7
              obtain ⟨_, c2, c3, _, f2, f3⟩ := hm7.cell
              have hm8 := hm7.step.deep d _ (show ((d + 1 : Nat) : Int) - 1 = d by omega)
              go_wp2
              go_ret
              have hr := HR2.out
              injection hr with hr
              rw [hr]
              refine ⟨by omega, k2, j2 + 1, ns2, rfl, ?_, by omega, by omega⟩
              first | exact hm8 | (simp at hm8 ⊢; exact hm8)
            | c :: l3, HL2, HR2 =>
              obtain ⟨hlt3, _, hd3⟩ := drop_some HL2.out
              have HD3 := Lib.hid hd3
              have eneg : decide ((c.toNat : Int) < 0) = false := by simp
              clear hd3
              go_wp2_with fail
              refine (rnext_mem hm5 (c :: l3) c.toNat hj2 HL2.out rfl).mono ?_
              rintro e w6 ⟨rfl, hb6⟩
              have hm7 := hm5.below hb6
              obtain ⟨_, c2, c3, _, f2, f3⟩ := hm7.cell
              have hm8 := hm7.step.deep d _ (show ((d + 1 : Nat) : Int) - 1 = d by omega)
              go_wp2
              go_ret
              have hr := HR2.out
              injection hr with hr
              rw [hr]
              refine ⟨k2, j2 + 1, ns2, rfl, ?_, hx2, hn2, HD3.out, hlt3, by omega, by omega⟩
              first | exact hm8 | (simp at hm8 ⊢; exact hm8)
          · have HRES := Lib.hid hres
            clear hres HCASE
            go_wp2_with fail
            refine (rnext_bad hm5 hf2).mono ?_
            rintro e w6 ⟨rfl, hb6⟩
            have hm6 := hm5.below hb6
            go_wp2_with fail
            refine (rfail_mem hm6 61).mono ?_
            rintro e w7 ⟨rfl, hm7⟩
            rw [if_neg hf2] at hm7
            obtain ⟨_, c2, c3, _, f2', f3⟩ := hm7.cell
            have hm8 := hm7.step.deep d _ (show ((d + 1 : Nat) : Int) - 1 = d by omega)
            go_wp2
            go_ret
            rw [HRES.out]
            refine ⟨hf2, k2, j2 + 1, ns2, rfl, ?_, by omega, by omega⟩
            first | exact hm8 | (simp at hm8 ⊢; exact hm8)
        · rw [if_neg hd16] at hrun
          injection hrun with hrun
          have HRES := Lib.hid hrun
          have e16 : decide ((16 : Int) ≤ (d : Int)) = true := by simp; omega
          clear hrun
          go_wp2_with fail
          refine (afail_mem hma 66).mono ?_
          rintro e w2 ⟨rfl, hm2⟩
          rw [if_pos rfl] at hm2
          go_wp2
          go_meet
          exact ⟨0, i + 1, 66, hm2, .inr ⟨by omega, HRES.out.symm, by omega⟩⟩
      rw [if_neg b40] at hrun
      have e40 : ((b.toNat : Int) == 40) = false := u8_ne (c := 40) b40
      clear b40
      by_cases b91 : b = 91
      · subst b91
        rw [if_pos rfl, ← HL'.out] at hrun
        have HRUN := Lib.hid hrun
        clear hrun
        go_wp2_with fail
        refine (aclass_mem (i := i) hma hs hi (by omega) hd HRUN.out).mono ?_
        rintro e w2 ⟨rfl, hend⟩
        go_wp2
        go_meet
        exact hend
      rw [if_neg b91] at hrun
      have e91 : ((b.toNat : Int) == 91) = false := u8_ne (c := 91) b91
      clear b91
      by_cases b46 : b = 46
      · subst b46
        rw [if_pos rfl] at hrun
        injection hrun with hrun
        have HRES := Lib.hid hrun
        clear hrun
        go_wp2
        go_loopg [6] 256 (fun g s6 wr => ∃ m : Nat, m + g = 256 ∧ s6 = .int .i64 (m : Int) ∧ RAtomMem w wr base t s d (i + 1) 0 ns p (putN 0 0 m))
        case atStart => exact ⟨0, by omega, rfl, hma⟩
        case round =>
          obtain ⟨x, hx2, rfl, hmx⟩ := hrel
          by_cases hlt : x < 256
          · have cx : wr.cell? ⟨p, 1 + x, none⟩ = some (.bool _) := (hmx.node.cell _).trans (nodeRow_bit _ _ _ _ x (by omega))
            have fx := hmx.node.frozen (1 + x)
            have HX2 := Lib.hid hx2
            clear hx2
            go_wp2
            go_roundg (256 - (x + 1))
            case measure => have := HX2.out; omega
            case rel =>
              refine ⟨x + 1, by omega, by go_num, hmx.mark true hlt (putN_lt (Nat.two_pow_pos 256) _ (by omega)) (fun i hi => ?_)⟩
              rw [putN, Nat.testBit_or, Nat.zero_add, Nat.testBit_two_pow]
              by_cases e : i = x
              · subst e; simp
              · have e' : ¬ x = i := fun h => e h.symm
                simp [e, e']
          · have hx : x = 256 := by omega
            subst hx
            clear hx2
            go_wp2
            go_meet
            exact ⟨_, i + 1, 0, hmx, .inl ⟨rfl, l, HRES.out.symm, HL'.out, hi, by omega⟩⟩
      rw [if_neg b46] at hrun
      have e46 : ((b.toNat : Int) == 46) = false := u8_ne (c := 46) b46
      clear b46
      by_cases b92 : b = 92
      · subst b92
        rw [if_pos rfl] at hrun
        match l, hrun, HL' with
        | [], hrun, HL' =>
          injection hrun with hrun
          have HRES := Lib.hid hrun
          clear hrun
          go_wp2_with fail
          refine (aescaped_nil hma hi HL'.out).mono ?_
          rintro e w2 ⟨rfl, hm2⟩
          have cx : w2.cell? ⟨p, 1, none⟩ = some (.bool _) := (hm2.node.cell _).trans (nodeRow_bit _ _ _ _ 0 (by omega))
          have fx := hm2.node.frozen 1
          have hm3 := hm2.mark true (m := 0) (by omega) (putR_lt (a := 0) (b := 0) hm2.lt (by omega)) (putR_mark _ 0)
          go_wp2
          go_meet
          exact ⟨_, i + 1, 65, hm3, .inr ⟨by omega, HRES.out.symm, by omega⟩⟩
        | c :: l, hrun, HL' =>
          injection hrun with hrun
          have HRES := Lib.hid hrun
          have hcl := UInt8.toNat_lt c
          obtain ⟨hlt2, _, hd2⟩ := drop_some HL'.out
          have HD2 := Lib.hid hd2
          clear hd2 hrun
          go_wp2_with fail
          refine (aescaped_cons hma hs c l HL'.out).mono ?_
          rintro e w2 ⟨rfl, hm2⟩
          have cx : w2.cell? ⟨p, 1 + c.toNat, none⟩ = some (.bool _) := (hm2.node.cell _).trans (nodeRow_bit _ _ _ _ c.toNat hcl)
          have fx := hm2.node.frozen (1 + c.toNat)
          have hm3 := hm2.mark true (m := c.toNat) hcl (putR_lt (a := c.toNat) (b := c.toNat) hm2.lt hcl) (putR_mark _ c.toNat)
          go_wp2
          go_meet
          exact ⟨_, i + 1 + 1, 0, hm3, .inl ⟨rfl, l, HRES.out.symm, HD2.out, hlt2, by omega⟩⟩
      rw [if_neg b92] at hrun
      have e92 : ((b.toNat : Int) == 92) = false := u8_ne (c := 92) b92
      have hbl := UInt8.toNat_lt b
      injection hrun with hrun
      have HRES := Lib.hid hrun
      clear hrun b92
      have cx : wx.cell? ⟨p, 1 + b.toNat, none⟩ = some (.bool _) := (hma.node.cell _).trans (nodeRow_bit _ _ _ _ b.toNat hbl)
      have fx := hma.node.frozen (1 + b.toNat)
      have hm3 := hma.mark true (m := b.toNat) hbl (putR_lt (a := b.toNat) (b := b.toNat) hma.lt hbl) (putR_mark _ b.toNat)
      go_wp2
      go_meet
      exact ⟨_, i + 1, 0, hm3, .inl ⟨rfl, l, HRES.out.symm, HL'.out, hi, by omega⟩⟩
    case rest =>
      obtain ⟨S, j, f, hmf, hcase⟩ := hcut
      have HC := Lib.hid hcase
      clear hcase hma
      obtain ⟨wz, rfl⟩ : ∃ wz, wz = wc := ⟨_, rfl⟩
      have hlr : (loadCells ⟨p, 0, none⟩ 259).run Try.prog wz = .ok (nodeRow 1 S 0 0) wz := lc_row hmf.node (nodeRow_size _ _ _ _)
      go_wp2_with fail
      refine (rput_mem hmf.mem ⟨1, S, 0, 0⟩ ns.length rfl (by omega)).mono ?_
      rintro e w9 ⟨rfl, hm9⟩
      go_wp2
      go_ret
      rcases HC.out with ⟨rfl, l', hres, hl', hj, hij⟩ | ⟨hf, hres, hj⟩
      · rw [hres]
        exact ⟨ns.length, j, _, rfl, hm9, NExt.snoc _ _, ⟨hmf.lt, get_snoc _ _⟩, hl', hj, by omega, by simp; omega⟩
      · rw [hres]
        exact ⟨hf, ns.length, j, _, rfl, hm9, hj, by simp; omega⟩

theorem ref_all : ∀ n, RAtomOk n ∧ RPieceOk n ∧ RBranchOk n ∧ RBranchesOk n := by
  intro n
  induction n using Nat.strongRecOn with
  | ind n ih => exact ⟨ratom_calls n fun m hm => (ih m hm).2.2.2, rpiece_calls n fun m hm => (ih m hm).1, rbranch_calls n fun m hm => (ih m hm).2.1, rbranches_calls n fun m hm => (ih m hm).2.2.1⟩
end Go.Proofs.Ytlmnincllndpnaa
