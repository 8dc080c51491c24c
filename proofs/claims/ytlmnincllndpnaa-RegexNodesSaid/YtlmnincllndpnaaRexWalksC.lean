/- The walks of layer 6 (regex): the reader's functions that call each other. -/
import Derived.Test.YtlmnincllndpnaaRexWalksB
namespace Go.Proofs.Ytlmnincllndpnaa
open Go.RowKit
attribute [local go_sem ↓] Go.wp_at_zero Go.wp_at_succ
attribute [local go_sem] Later.cell Later.frozen

def ptr (p : Nat) : Value := .pointer (some ⟨p, 0, none⟩)
/-- A node with one child, a node with two; all blocks between lo and hi. -/
def OneAt (w : World) (kd : Int) (A : Nat → Nat → Nat → Prop) (lo hi p : Nat) : Prop :=
  ∃ m k pa, A lo m pa ∧ m ≤ k ∧ k < p ∧ p < hi ∧ Blk w k 23 #[.pointer (some ⟨pa, 0, none⟩)] ∧ Blk w p 52 (nodeCells kd 0 (.slice (some ⟨k, 0, none⟩) 1 1))
def TwoAt (w : World) (kd : Int) (A B : Nat → Nat → Nat → Prop) (lo hi p : Nat) : Prop :=
  ∃ m1 m2 k pa pb, A lo m1 pa ∧ B m1 m2 pb ∧ m2 ≤ k ∧ k < p ∧ p < hi ∧ Blk w k 23 #[.pointer (some ⟨pa, 0, none⟩), .pointer (some ⟨pb, 0, none⟩)] ∧ Blk w p 52 (nodeCells kd 0 (.slice (some ⟨k, 0, none⟩) 2 2))
/-- The tree t stands at block p, in blocks from lo on below hi, each subtree in a stretch of its own. -/
def TreeAt (w : World) : Tr → Nat → Nat → Nat → Prop
  | .empty, lo, hi, p => lo ≤ p ∧ p < hi ∧ Blk w p 52 (nodeCells 0 0 (.slice none 0 0))
  | .cls v, lo, hi, p => lo ≤ p ∧ p < hi ∧ v < 2 ^ 256 ∧ Blk w p 52 (nodeCells 1 v (.slice none 0 0))
  | .cat a b, lo, hi, p => TwoAt w 2 (TreeAt w a) (TreeAt w b) lo hi p
  | .alt a b, lo, hi, p => TwoAt w 3 (TreeAt w a) (TreeAt w b) lo hi p
  | .star a, lo, hi, p => OneAt w 4 (TreeAt w a) lo hi p
  | .plus a, lo, hi, p => OneAt w 5 (TreeAt w a) lo hi p
  | .quest a, lo, hi, p => OneAt w 6 (TreeAt w a) lo hi p

theorem TreeAt.lt {w : World} : ∀ {t : Tr} {lo hi p : Nat}, TreeAt w t lo hi p → lo ≤ p ∧ p < hi
  | .empty, _, _, _, h => ⟨h.1, h.2.1⟩
  | .cls _, _, _, _, h => ⟨h.1, h.2.1⟩
  | .cat a b, _, _, _, ⟨_, _, _, _, _, ha, hb, h1, h2, h3, _⟩ => by have := TreeAt.lt ha; have := TreeAt.lt hb; omega
  | .alt a b, _, _, _, ⟨_, _, _, _, _, ha, hb, h1, h2, h3, _⟩ => by have := TreeAt.lt ha; have := TreeAt.lt hb; omega
  | .star a, _, _, _, ⟨_, _, _, ha, h1, h2, h3, _⟩ => by have := TreeAt.lt ha; omega
  | .plus a, _, _, _, ⟨_, _, _, ha, h1, h2, h3, _⟩ => by have := TreeAt.lt ha; omega
  | .quest a, _, _, _, ⟨_, _, _, ha, h1, h2, h3, _⟩ => by have := TreeAt.lt ha; omega

theorem TreeAt.keep {w w' : World} : ∀ {t : Tr} {lo hi lo' hi' p : Nat}, TreeAt w t lo hi p → lo' ≤ lo → hi ≤ hi' → (∀ b, lo ≤ b → b < hi → w'.heap[b]? = w.heap[b]?) → TreeAt w' t lo' hi' p
  | .empty, _, _, _, _, _, h, h1, h2, hk => ⟨Nat.le_trans h1 h.1, Nat.lt_of_lt_of_le h.2.1 h2, (hk _ h.1 h.2.1).trans h.2.2⟩
  | .cls _, _, _, _, _, _, h, h1, h2, hk => ⟨Nat.le_trans h1 h.1, Nat.lt_of_lt_of_le h.2.1 h2, h.2.2.1, (hk _ h.1 h.2.1).trans h.2.2.2⟩
  | .cat a b, lo, hi, lo', hi', p, ⟨m1, m2, k, pa, pb, ha, hb, g1, g2, g3, e1, e2⟩, h1, h2, hk => by
    have l1 := TreeAt.lt ha
    have l2 := TreeAt.lt hb
    exact ⟨m1, m2, k, pa, pb, TreeAt.keep ha h1 (Nat.le_refl _) (fun b x y => hk b x (by omega)), TreeAt.keep hb (Nat.le_refl _) (Nat.le_refl _) (fun b x y => hk b (by omega) (by omega)), g1, g2, by omega, (hk _ (by omega) (by omega)).trans e1, (hk _ (by omega) (by omega)).trans e2⟩
  | .alt a b, lo, hi, lo', hi', p, ⟨m1, m2, k, pa, pb, ha, hb, g1, g2, g3, e1, e2⟩, h1, h2, hk => by
    have l1 := TreeAt.lt ha
    have l2 := TreeAt.lt hb
    exact ⟨m1, m2, k, pa, pb, TreeAt.keep ha h1 (Nat.le_refl _) (fun b x y => hk b x (by omega)), TreeAt.keep hb (Nat.le_refl _) (Nat.le_refl _) (fun b x y => hk b (by omega) (by omega)), g1, g2, by omega, (hk _ (by omega) (by omega)).trans e1, (hk _ (by omega) (by omega)).trans e2⟩
  | .star a, lo, hi, lo', hi', p, ⟨m, k, pa, ha, g1, g2, g3, e1, e2⟩, h1, h2, hk => by
    have l1 := TreeAt.lt ha
    exact ⟨m, k, pa, TreeAt.keep ha h1 (Nat.le_refl _) (fun b x y => hk b x (by omega)), g1, g2, by omega, (hk _ (by omega) (by omega)).trans e1, (hk _ (by omega) (by omega)).trans e2⟩
  | .plus a, lo, hi, lo', hi', p, ⟨m, k, pa, ha, g1, g2, g3, e1, e2⟩, h1, h2, hk => by
    have l1 := TreeAt.lt ha
    exact ⟨m, k, pa, TreeAt.keep ha h1 (Nat.le_refl _) (fun b x y => hk b x (by omega)), g1, g2, by omega, (hk _ (by omega) (by omega)).trans e1, (hk _ (by omega) (by omega)).trans e2⟩
  | .quest a, lo, hi, lo', hi', p, ⟨m, k, pa, ha, g1, g2, g3, e1, e2⟩, h1, h2, hk => by
    have l1 := TreeAt.lt ha
    exact ⟨m, k, pa, TreeAt.keep ha h1 (Nat.le_refl _) (fun b x y => hk b x (by omega)), g1, g2, by omega, (hk _ (by omega) (by omega)).trans e1, (hk _ (by omega) (by omega)).trans e2⟩

theorem TreeAt.below {w w' : World} {t : Tr} {lo hi hi' p : Nat} (h : TreeAt w t lo hi p) (hb : Below w.heap.size w w') (h1 : hi ≤ w.heap.size) (h2 : hi ≤ hi') : TreeAt w' t lo hi' p :=
  h.keep (Nat.le_refl _) h2 (fun b _ hl => hb.block b (by omega))
theorem TreeAt.kept {w w' : World} {t : Tr} {r lo hi hi' p : Nat} (h : TreeAt w t lo hi p) (hb : Kept w.heap.size [r] w w') (h1 : hi ≤ w.heap.size) (h2 : hi ≤ hi') (hr : r < lo) : TreeAt w' t lo hi' p :=
  h.keep (Nat.le_refl _) h2 (fun b hl _ => hb.block b (by omega) (by simp; omega))

/-- What the reader's functions hand back. -/
def RdOut (w : World) (r : Nat) (s : ByteArray) (d : Nat) (res : Except Nat (Tr × List UInt8)) (e : Ending) (w' : World) : Prop :=
  match res with
  | .ok (t, l) => ∃ p j, e = .returned (.pointer (some ⟨p, 0, none⟩)) ∧ Kept w.heap.size [r] w w' ∧ Rd w' r s j d ∧ j ≤ s.size ∧ s.data.toList.drop j = l ∧ TreeAt w' t w.heap.size w'.heap.size p
  | .error c => e = fault c ∧ Kept w.heap.size [r] w w'

/-- While a function of the reader runs: the tree so far at block p. -/
structure RdMem (w wr : World) (r : Nat) (s : ByteArray) (d j : Nat) : Prop where
  kept : Kept w.heap.size [r] w wr
  rd : Rd wr r s j d
  le : j ≤ s.size
theorem RdMem.below {w wr w1 : World} {r d j : Nat} {s : ByteArray} (h : RdMem w wr r s d j) (hb : Below wr.heap.size wr w1) : RdMem w w1 r s d j :=
  ⟨h.kept.then_ hb, h.rd.below hb, h.le⟩
theorem RdMem.step {w wr : World} {r d j : Nat} {s : ByteArray} (h : RdMem w wr r s d j) (hj : j < s.size) : RdMem w (wr.setCell ⟨r, 1, none⟩ (.int .i64 ((j : Int) + 1))) r s d (j + 1) :=
  ⟨h.kept.setCell (.inl (by simp)) _, h.rd.step, hj⟩
theorem RdMem.size {w wr : World} {r d j : Nat} {s : ByteArray} (h : RdMem w wr r s d j) : w.heap.size ≤ wr.heap.size := h.kept.size

theorem TreeAt.grow {w : World} {t : Tr} {lo hi p : Nat} (h : TreeAt w t lo hi p) (o o' : Obj) (h1 : hi ≤ w.heap.size) : TreeAt ((w.alloc o).alloc o') t lo hi p :=
  h.keep (Nat.le_refl _) (Nat.le_refl _) (fun b _ hl => by rw [Below.heap_alloc _ _ _ (by simp; omega), Below.heap_alloc _ _ _ (by omega)])
/-- A node is made over what was read. -/
def newOne (w : World) (kd : Int) (pa : Nat) : World := (w.alloc (.cells #[.pointer (some ⟨pa, 0, none⟩)] 23)).alloc (.cells (nodeCells kd 0 (.slice (some ⟨w.heap.size, 0, none⟩) 1 1)) 52)
def newTwo (w : World) (kd : Int) (pa pb : Nat) : World := (w.alloc (.cells #[.pointer (some ⟨pa, 0, none⟩), .pointer (some ⟨pb, 0, none⟩)] 23)).alloc (.cells (nodeCells kd 0 (.slice (some ⟨w.heap.size, 0, none⟩) 2 2)) 52)
theorem one_new {w : World} {a : Tr} {lo pa : Nat} (kd : Int) (ha : TreeAt w a lo w.heap.size pa) : OneAt (newOne w kd pa) kd (TreeAt (newOne w kd pa) a) lo (newOne w kd pa).heap.size (w.heap.size + 1) :=
  ⟨w.heap.size, w.heap.size, pa, ha.grow _ _ (Nat.le_refl _), Nat.le_refl _, by omega, by simp [newOne], (Blk.new _ _ _).alloc _, Blk.newAt (by simp)⟩
theorem two_new {w : World} {a b : Tr} {lo m pa pb : Nat} (kd : Int) (ha : TreeAt w a lo m pa) (hb : TreeAt w b m w.heap.size pb) : TwoAt (newTwo w kd pa pb) kd (TreeAt (newTwo w kd pa pb) a) (TreeAt (newTwo w kd pa pb) b) lo (newTwo w kd pa pb).heap.size (w.heap.size + 1) :=
  ⟨m, w.heap.size, w.heap.size, pa, pb, ha.grow _ _ (by have := hb.lt; omega), hb.grow _ _ (Nat.le_refl _), Nat.le_refl _, by omega, by simp [newTwo], (Blk.new _ _ _).alloc _, Blk.newAt (by simp)⟩
theorem RdMem.grow {w wr : World} {r d j : Nat} {s : ByteArray} (h : RdMem w wr r s d j) (o o' : Obj) : RdMem w ((wr.alloc o).alloc o') r s d j :=
  h.below (((Below.refl _ _).alloc (Nat.le_refl _) _).alloc (by simp) _)

def AtomOk (n : Nat) : Prop := ∀ (r : Nat) (s : ByteArray) (i d : Nat) (w : World) (res : Except Nat (Tr × List UInt8)), Rd w r s i d → i < s.size → s.size ≤ 64 → d ≤ 16 → run n .atom (s.data.toList.drop i) d = some res →
  Calls Try.prog 55 #[.pointer (some ⟨r, 0, none⟩)] w (RdOut w r s d res)
def PieceOk (n : Nat) : Prop := ∀ (r : Nat) (s : ByteArray) (i d : Nat) (w : World) (res : Except Nat (Tr × List UInt8)), Rd w r s i d → i < s.size → s.size ≤ 64 → d ≤ 16 → run n .piece (s.data.toList.drop i) d = some res →
  Calls Try.prog 48 #[.pointer (some ⟨r, 0, none⟩)] w (RdOut w r s d res)
def BranchOk (n : Nat) : Prop := ∀ (r : Nat) (s : ByteArray) (i d : Nat) (w : World) (res : Except Nat (Tr × List UInt8)), Rd w r s i d → i ≤ s.size → s.size ≤ 64 → d ≤ 16 → run n (.pieces none) (s.data.toList.drop i) d = some res →
  Calls Try.prog 35 #[.pointer (some ⟨r, 0, none⟩)] w (RdOut w r s d res)
def BranchesOk (n : Nat) : Prop := ∀ (r : Nat) (s : ByteArray) (i d : Nat) (w : World) (res : Except Nat (Tr × List UInt8)), Rd w r s i d → i ≤ s.size → s.size ≤ 64 → d ≤ 16 → run n .branches (s.data.toList.drop i) d = some res →
  Calls Try.prog 28 #[.pointer (some ⟨r, 0, none⟩)] w (RdOut w r s d res)

theorem run_pos {n : Nat} {k : Tk} {l : List UInt8} {d : Nat} {res} (h : run n k l d = some res) : ∃ m, n = m + 1 := by
  cases n with
  | zero => simp [run] at h
  | succ n => exact ⟨n, rfl⟩

set_option maxRecDepth 100000 in
set_option maxHeartbeats 1000000 in
theorem branches_calls (n : Nat) (ih : ∀ m, m < n → BranchOk m) : BranchesOk n := by
  intro r s i d w res hrd hi hs hd hrun
  obtain ⟨n, rfl⟩ := run_pos hrun
  rw [run] at hrun
  have IH : Hid (∀ m, m < n + 1 → BranchOk m) := ih
  clear ih
  rcases Res.then_some hrun with ⟨t, l, h1, h2⟩ | ⟨c, h1, rfl⟩
  · have H1 := Lib.hid h1
    have H2 := Lib.hid h2
    clear h1 h2 hrun
    go_enter Try.func28, Try.ntmps28
    go_wp2_with fail
    refine (IH.out n (by omega) r s i d _ _ hrd hi hs hd H1.out).mono ?_
    rintro e w1 ⟨p, j, rfl, hk1, hr1, hj1, hl1, ht1⟩
    rw [← hl1] at H2
    clear hl1
    go_wp2_with fail
    go_loopg [3] n (fun m s3 wr => ∃ t p j, s3 = .pointer (some ⟨p, 0, none⟩) ∧ m ≤ n ∧ run m (.strokes t) (s.data.toList.drop j) d = some res ∧ RdMem w wr r s d j ∧ TreeAt wr t w.heap.size wr.heap.size p)
    case atStart => exact ⟨t, p, j, rfl, Nat.le_refl _, H2.out, ⟨hk1, hr1, hj1⟩, ht1⟩
    case round =>
      obtain ⟨t, p, j, rfl, hmn, hrun, hm, ht⟩ := hrel
      obtain ⟨m, hgk⟩ := run_pos hrun
      have hrl : r < w.heap.size := by
        rcases Nat.lt_or_ge r w.heap.size with h | h
        · exact h
        · have := hrd.lt; omega
      obtain ⟨l, hl⟩ : ∃ l, s.data.toList.drop j = l := ⟨_, rfl⟩
      rw [hl, hgk, run] at hrun
      obtain ⟨b1, hb1⟩ : ∃ b, pk l = b := ⟨_, rfl⟩
      obtain ⟨o1, ho1⟩ : ∃ b, more l = b := ⟨_, rfl⟩
      have h124 := pk_eq (c := 124) hb1 (by decide)
      have HB1 := Lib.hid hb1
      have HO1 := Lib.hid ho1
      have HL := Lib.hid hl
      have HGK := Lib.hid hgk
      by_cases hc : l.head? = some 124
      · rw [if_pos hc] at hrun
        obtain ⟨l2, hl2⟩ : ∃ l2, l = 124 :: l2 := ⟨_, head_cons hc⟩
        have e1 : ((b1 : Int) != 124) = false := by
          have : ((b1 : Int) == 124) = true := by rw [show (124 : Int) = ((124 : UInt8).toNat : Int) from rfl, h124]; simp [hc]
          simp only [bne, this]; rfl
        have e2 : o1 = true := by rw [← ho1, hl2]; rfl
        subst e2
        obtain ⟨hjlt, _, hd2⟩ := drop_some (hl.trans hl2)
        have htl : l.tail = s.data.toList.drop (j + 1) := by rw [hl2, hd2]; rfl
        rw [htl] at hrun
        have HR := Lib.hid hrun
        clear hb1 ho1 hl hgk h124 hc hl2 hd2 htl hrun
        go_wp2_with fail
        refine (peek_any r s j d _ l b1 true hm.rd hm.le HL.out HB1.out HO1.out).mono ?_
        rintro e w1 ⟨rfl, hb1⟩
        have hm1 := hm.below hb1
        have ht1 := ht.below hb1 (Nat.le_refl _) hb1.size
        have c1 : _ = some (Value.int .i64 j) := hm1.rd.cell 1
        have f1 := hm1.rd.frozen 1
        have hm2 := hm1.step hjlt
        have ht2 : TreeAt (w1.setCell ⟨r, 1, none⟩ (.int .i64 ((j : Int) + 1))) t w.heap.size w1.heap.size p := ht1.keep (Nat.le_refl _) (Nat.le_refl _) (fun b hlo _ => Below.heap_setCell _ _ _ _ (by simp; omega))
        rcases Res.then_some HR.out with ⟨u, l3, h1, h2⟩ | ⟨c, h1, h2⟩
        · have H1 := Lib.hid h1
          have H2 := Lib.hid h2
          clear h1 h2
          go_wp2_with fail
          refine (IH.out m (by have := HGK.out; omega) r s (j + 1) d _ _ hm2.rd hm2.le hs hd H1.out).mono ?_
          rintro e w3 ⟨pb, j3, rfl, hk3, hr3, hj3, hl3, ht3⟩
          have hsz : (w1.setCell ⟨r, 1, none⟩ (.int .i64 ((j : Int) + 1))).heap.size = w1.heap.size := by simp [World.setCell]
          have hm3 : RdMem w w3 r s d j3 := ⟨hm2.kept.trans (hk3.mono hm2.kept.size (fun _ _ h => h)), hr3, hj3⟩
          have ht4 : TreeAt w3 t w.heap.size w1.heap.size p := ht2.kept hk3 (by rw [hsz]; exact Nat.le_refl _) (Nat.le_refl _) hrl
          rw [hsz] at ht3
          have HL3 := Lib.hid hl3
          clear hl3 hsz hk3 hr3 ht2 hm2 hm1 ht1 c1 f1 hb1
          obtain ⟨wy, rfl⟩ : ∃ wy, wy = w3 := ⟨_, rfl⟩
          go_wp2_with fail
          refine (node_calls 3 (some ⟨wy.heap.size, 0, none⟩) 2 2 _).mono ?_
          rintro e w5 ⟨rfl, rfl⟩
          go_wp2
          go_roundg m
          case measure => rw [HGK.out]; omega
          case rel =>
            refine ⟨.alt t u, wy.heap.size + 1, j3, by simp, by have := HGK.out; omega, by rw [HL3.out]; exact H2.out, hm3.grow _ _, two_new 3 ht4 ht3⟩
        · have H1 := Lib.hid h1
          have H2 := Lib.hid h2
          clear h1 h2
          go_wp2_with fail
          refine (IH.out m (by have := HGK.out; omega) r s (j + 1) d _ _ hm2.rd hm2.le hs hd H1.out).mono ?_
          rintro e w3 ⟨rfl, hk3⟩
          refine leave_fault rfl ?_
          rw [H2.out]
          exact ⟨rfl, hm2.kept.trans (hk3.mono hm2.kept.size (fun _ _ h => h))⟩
      · rw [if_neg hc] at hrun
        have e1 : ((b1 : Int) != 124) = true := by
          have : ((b1 : Int) == 124) = false := by rw [show (124 : Int) = ((124 : UInt8).toNat : Int) from rfl, h124]; simp [hc]
          simp only [bne, this]; rfl
        injection hrun with hrun
        have HR := Lib.hid hrun
        clear hb1 ho1 hl hgk h124 hc hrun
        go_wp2_with fail
        refine (peek_any r s j d _ l b1 o1 hm.rd hm.le HL.out HB1.out HO1.out).mono ?_
        rintro e w1 ⟨rfl, hb1⟩
        have hm1 := hm.below hb1
        have ht1 := ht.below hb1 (Nat.le_refl _) hb1.size
        cases o1
        all_goals
          go_wp2
          go_ret
          rw [← HR.out]
          exact ⟨p, j, rfl, hm1.kept, hm1.rd, hm1.le, HL.out, ht1⟩
  · have H1 := Lib.hid h1
    clear h1 hrun
    go_enter Try.func28, Try.ntmps28
    go_wp2_with fail
    refine (IH.out n (by omega) r s i d _ _ hrd hi hs hd H1.out).mono ?_
    rintro e w1 ⟨rfl, hk⟩
    exact leave_fault rfl ⟨rfl, hk⟩

set_option maxRecDepth 100000 in
set_option maxHeartbeats 2000000 in
theorem piece_calls (n : Nat) (ih : ∀ m, m < n → AtomOk m) : PieceOk n := by
  intro r s i d w res hrd hi hs hd hrun
  obtain ⟨n, rfl⟩ := run_pos hrun
  rw [run] at hrun
  have IH : Hid (∀ m, m < n + 1 → AtomOk m) := ih
  clear ih
  rcases Res.then_some hrun with ⟨t, l, h1, h2⟩ | ⟨c, h1, rfl⟩
  · have H1 := Lib.hid h1
    have H2 := Lib.hid h2
    clear h1 h2 hrun
    go_enter Try.func48, Try.ntmps48
    go_wp2_with fail
    refine (IH.out n (by omega) r s i d _ _ hrd hi hs hd H1.out).mono ?_
    rintro e w1 ⟨p, j, rfl, hk1, hr1, hj1, hl1, ht1⟩
    rw [← hl1] at H2
    clear hl1
    go_wp2_with fail
    go_loopg [3] n (fun m s3 wr => ∃ t p j, s3 = .pointer (some ⟨p, 0, none⟩) ∧ m ≤ n ∧ run m (.signs t) (s.data.toList.drop j) d = some res ∧ RdMem w wr r s d j ∧ TreeAt wr t w.heap.size wr.heap.size p)
    case atStart => exact ⟨t, p, j, rfl, Nat.le_refl _, H2.out, ⟨hk1, hr1, hj1⟩, ht1⟩
    case round =>
      obtain ⟨t, p, j, rfl, hmn, hrun, hm, ht⟩ := hrel
      obtain ⟨m, hgk⟩ := run_pos hrun
      have hrl : r < w.heap.size := hrd.lt
      obtain ⟨l, hl⟩ : ∃ l, s.data.toList.drop j = l := ⟨_, rfl⟩
      rw [hl, hgk] at hrun
      have HL := Lib.hid hl
      have HGK := Lib.hid hgk
      clear hgk
      match l, hl, hrun, HL with
      | [], hl, hrun, HL =>
        rw [run] at hrun
        injection hrun with hrun
        have HR := Lib.hid hrun
        clear hl hrun
        go_wp2_with fail
        refine (peek_nil r s j d _ hm.rd hm.le HL.out).mono ?_
        rintro e w1 ⟨rfl, hb1⟩
        have hm1 := hm.below hb1
        have ht1 := ht.below hb1 (Nat.le_refl _) hb1.size
        go_wp2
        go_ret
        rw [← HR.out]
        exact ⟨p, j, rfl, hm1.kept, hm1.rd, hm1.le, HL.out, ht1⟩
      | b :: l2, hl, hrun, HL =>
        obtain ⟨hjlt, _, hd2⟩ := drop_some hl
        have hmk := Lib.hid hd2
        rw [run] at hrun
        by_cases b42 : b = 42
        · subst b42
          rw [show signOf 42 t = some (.star t) from rfl] at hrun
          simp only [← hd2] at hrun
          have HR := Lib.hid hrun
          clear hl hrun hd2
          go_wp2_with fail
          refine (peek_cons r s j d _ 42 l2 hm.rd HL.out).mono ?_
          rintro e w1 ⟨rfl, hb1⟩
          have hm1 := hm.below hb1
          have ht1 := ht.below hb1 (Nat.le_refl _) hb1.size
          obtain ⟨wy, rfl⟩ : ∃ wy, wy = w1 := ⟨_, rfl⟩
          clear hb1 hm ht
          go_wp2_with fail
          refine (node_calls 4 (some ⟨wy.heap.size, 0, none⟩) 1 1 _).mono ?_
          rintro e w5 ⟨rfl, rfl⟩
          have hm2 := hm1.grow (.cells #[.pointer (some ⟨p, 0, none⟩)] 23) (.cells (nodeCells 4 0 (.slice (some ⟨wy.heap.size, 0, none⟩) 1 1)) 52)
          have ht2 := one_new 4 ht1
          unfold newOne at ht2
          obtain ⟨wv, hwv⟩ : ∃ wv, (wy.alloc (.cells #[.pointer (some ⟨p, 0, none⟩)] 23)).alloc (.cells (nodeCells 4 0 (.slice (some ⟨wy.heap.size, 0, none⟩) 1 1)) 52) = wv := ⟨_, rfl⟩
          rw [hwv] at hm2 ht2 ⊢
          clear hwv
          have c1 : _ = some (Value.int .i64 j) := hm2.rd.cell 1
          have f1 := hm2.rd.frozen 1
          go_wp2
          go_roundg m
          case measure => rw [HGK.out]; omega
          case rel =>
            refine ⟨.star t, wy.heap.size + 1, j + 1, by simp, by have := HGK.out; omega, HR.out, hm2.step hjlt, ?_⟩
            have : TreeAt wv (.star t) w.heap.size wv.heap.size (wy.heap.size + 1) := ht2
            exact this.keep (Nat.le_refl _) (by simp [World.setCell]) (fun b hlo _ => Below.heap_setCell _ _ _ _ (by simp; omega))
        by_cases b43 : b = 43
        · subst b43
          rw [show signOf 43 t = some (.plus t) from rfl] at hrun
          simp only [← hd2] at hrun
          have HR := Lib.hid hrun
          clear hl hrun hd2
          go_wp2_with fail
          refine (peek_cons r s j d _ 43 l2 hm.rd HL.out).mono ?_
          rintro e w1 ⟨rfl, hb1⟩
          have hm1 := hm.below hb1
          have ht1 := ht.below hb1 (Nat.le_refl _) hb1.size
          obtain ⟨wy, rfl⟩ : ∃ wy, wy = w1 := ⟨_, rfl⟩
          clear hb1 hm ht
          go_wp2_with fail
          refine (node_calls 5 (some ⟨wy.heap.size, 0, none⟩) 1 1 _).mono ?_
          rintro e w5 ⟨rfl, rfl⟩
          have hm2 := hm1.grow (.cells #[.pointer (some ⟨p, 0, none⟩)] 23) (.cells (nodeCells 5 0 (.slice (some ⟨wy.heap.size, 0, none⟩) 1 1)) 52)
          have ht2 := one_new 5 ht1
          unfold newOne at ht2
          obtain ⟨wv, hwv⟩ : ∃ wv, (wy.alloc (.cells #[.pointer (some ⟨p, 0, none⟩)] 23)).alloc (.cells (nodeCells 5 0 (.slice (some ⟨wy.heap.size, 0, none⟩) 1 1)) 52) = wv := ⟨_, rfl⟩
          rw [hwv] at hm2 ht2 ⊢
          clear hwv
          have c1 : _ = some (Value.int .i64 j) := hm2.rd.cell 1
          have f1 := hm2.rd.frozen 1
          go_wp2
          go_roundg m
          case measure => rw [HGK.out]; omega
          case rel =>
            refine ⟨.plus t, wy.heap.size + 1, j + 1, by simp, by have := HGK.out; omega, HR.out, hm2.step hjlt, ?_⟩
            have : TreeAt wv (.plus t) w.heap.size wv.heap.size (wy.heap.size + 1) := ht2
            exact this.keep (Nat.le_refl _) (by simp [World.setCell]) (fun b hlo _ => Below.heap_setCell _ _ _ _ (by simp; omega))
        by_cases b63 : b = 63
        · subst b63
          rw [show signOf 63 t = some (.quest t) from rfl] at hrun
          simp only [← hd2] at hrun
          have HR := Lib.hid hrun
          clear hl hrun hd2
          go_wp2_with fail
          refine (peek_cons r s j d _ 63 l2 hm.rd HL.out).mono ?_
          rintro e w1 ⟨rfl, hb1⟩
          have hm1 := hm.below hb1
          have ht1 := ht.below hb1 (Nat.le_refl _) hb1.size
          obtain ⟨wy, rfl⟩ : ∃ wy, wy = w1 := ⟨_, rfl⟩
          clear hb1 hm ht
          go_wp2_with fail
          refine (node_calls 6 (some ⟨wy.heap.size, 0, none⟩) 1 1 _).mono ?_
          rintro e w5 ⟨rfl, rfl⟩
          have hm2 := hm1.grow (.cells #[.pointer (some ⟨p, 0, none⟩)] 23) (.cells (nodeCells 6 0 (.slice (some ⟨wy.heap.size, 0, none⟩) 1 1)) 52)
          have ht2 := one_new 6 ht1
          unfold newOne at ht2
          obtain ⟨wv, hwv⟩ : ∃ wv, (wy.alloc (.cells #[.pointer (some ⟨p, 0, none⟩)] 23)).alloc (.cells (nodeCells 6 0 (.slice (some ⟨wy.heap.size, 0, none⟩) 1 1)) 52) = wv := ⟨_, rfl⟩
          rw [hwv] at hm2 ht2 ⊢
          clear hwv
          have c1 : _ = some (Value.int .i64 j) := hm2.rd.cell 1
          have f1 := hm2.rd.frozen 1
          go_wp2
          go_roundg m
          case measure => rw [HGK.out]; omega
          case rel =>
            refine ⟨.quest t, wy.heap.size + 1, j + 1, by simp, by have := HGK.out; omega, HR.out, hm2.step hjlt, ?_⟩
            have : TreeAt wv (.quest t) w.heap.size wv.heap.size (wy.heap.size + 1) := ht2
            exact this.keep (Nat.le_refl _) (by simp [World.setCell]) (fun b hlo _ => Below.heap_setCell _ _ _ _ (by simp; omega))
        · have hsn : signOf b t = none := by simp [signOf, b42, b43, b63]
          rw [hsn] at hrun
          have e42 : ((b.toNat : Int) == 42) = false := u8_ne (c := 42) b42
          have e43 : ((b.toNat : Int) == 43) = false := u8_ne (c := 43) b43
          have e63 : ((b.toNat : Int) == 63) = false := u8_ne (c := 63) b63
          injection hrun with hrun
          have HR := Lib.hid hrun
          clear hl hrun hsn hd2 b42 b43 b63
          go_wp2_with fail
          refine (peek_cons r s j d _ b l2 hm.rd HL.out).mono ?_
          rintro e w1 ⟨rfl, hb1⟩
          have hm1 := hm.below hb1
          have ht1 := ht.below hb1 (Nat.le_refl _) hb1.size
          go_wp2
          go_ret
          rw [← HR.out]
          exact ⟨p, j, rfl, hm1.kept, hm1.rd, hm1.le, HL.out, ht1⟩
  · have H1 := Lib.hid h1
    clear h1 hrun
    go_enter Try.func48, Try.ntmps48
    go_wp2_with fail
    refine (IH.out n (by omega) r s i d _ _ hrd hi hs hd H1.out).mono ?_
    rintro e w1 ⟨rfl, hk⟩
    exact leave_fault rfl ⟨rfl, hk⟩

theorem u8_bne {b c : UInt8} (h : ¬ b = c) : ((b.toNat : Int) != (c.toNat : Int)) = true := by simp only [bne, u8_ne h, Bool.not_false]
/-- The tree so far, if there is one. -/
def OptAt (w : World) (t : Option Tr) (lo hi : Nat) (v : Value) : Prop :=
  match t with
  | none => v = .pointer none
  | some t => ∃ p, v = .pointer (some ⟨p, 0, none⟩) ∧ TreeAt w t lo hi p

set_option maxRecDepth 100000 in
set_option maxHeartbeats 2000000 in
theorem branch_calls (n : Nat) (ih : ∀ m, m < n → PieceOk m) : BranchOk n := by
  intro r s i d w res hrd hi hs hd hrun
  have IH : Hid (∀ m, m < n → PieceOk m) := ih
  have H0 := Lib.hid hrun
  clear ih hrun
  go_enter Try.func35, Try.ntmps35
  go_wp2_with fail
  go_loopg [3] n (fun m s3 wr => ∃ t j, m ≤ n ∧ run m (.pieces t) (s.data.toList.drop j) d = some res ∧ RdMem w wr r s d j ∧ OptAt wr t w.heap.size wr.heap.size s3)
  case atStart => exact ⟨none, i, Nat.le_refl _, H0.out, ⟨Kept.refl _ _ _, hrd, hi⟩, rfl⟩
  case round =>
    obtain ⟨t, j, hmn, hrun, hm, ho⟩ := hrel
    obtain ⟨m, hgk⟩ := run_pos hrun
    have hrl : r < w.heap.size := hrd.lt
    obtain ⟨l, hl⟩ : ∃ l, s.data.toList.drop j = l := ⟨_, rfl⟩
    rw [hl, hgk] at hrun
    have HL := Lib.hid hl
    have HGK := Lib.hid hgk
    clear hgk
    match l, hl, hrun, HL with
    | [], hl, hrun, HL =>
      rw [run] at hrun
      injection hrun with hrun
      have HR := Lib.hid hrun
      clear hl hrun
      go_wp2_with fail
      refine (peek_nil r s j d _ hm.rd hm.le HL.out).mono ?_
      rintro e w1 ⟨rfl, hb1⟩
      have hm1 := hm.below hb1
      go_wp2_with fail
      refine (must_ok _ 62 _).mono ?_
      rintro e w2 ⟨rfl, rfl⟩
      cases t with
      | none =>
        obtain rfl : u3 = .pointer none := ho
        go_wp2_with fail
        refine (node_calls 0 none 0 0 _).mono ?_
        rintro e w5 ⟨rfl, rfl⟩
        go_wp2
        go_ret
        rw [← HR.out]
        have hm2 := hm1.below ((Below.refl _ _).alloc (Nat.le_refl _) (.cells (nodeCells 0 0 (.slice none 0 0)) 52))
        exact ⟨_, j, rfl, hm2.kept, hm2.rd, hm2.le, HL.out, hm1.size, by simp, Blk.new _ _ _⟩
      | some t =>
        obtain ⟨p, rfl, ht⟩ := ho
        have ht1 := ht.below hb1 (Nat.le_refl _) hb1.size
        go_wp2
        go_ret
        rw [← HR.out]
        exact ⟨p, j, rfl, hm1.kept, hm1.rd, hm1.le, HL.out, ht1⟩
    | b :: l2, hl, hrun, HL =>
      obtain ⟨hjlt, _, hd2⟩ := drop_some hl
      clear hd2
      rw [run] at hrun
      by_cases b41 : b = 41
      · subst b41
        by_cases hd0 : d = 0
        · subst hd0
          rw [if_pos ⟨rfl, rfl⟩] at hrun
          injection hrun with hrun
          have HR := Lib.hid hrun
          clear hl hrun
          go_wp2_with fail
          refine (peek_cons r s j 0 _ 41 l2 hm.rd HL.out).mono ?_
          rintro e w1 ⟨rfl, hb1⟩
          have hm1 := hm.below hb1
          have c2 : _ = some (Value.int .i64 (0 : Nat)) := hm1.rd.cell 2
          go_wp2_with fail
          refine (must_no _ 62 _).mono ?_
          rintro e w2 ⟨rfl, rfl⟩
          refine leave_fault rfl ?_
          rw [← HR.out]
          exact ⟨rfl, hm1.kept⟩
        · rw [if_neg (by simp [hd0]), if_pos (.inr rfl)] at hrun
          injection hrun with hrun
          have HR := Lib.hid hrun
          have dpos : 0 < d := by omega
          clear hl hrun hd0
          go_wp2_with fail
          refine (peek_cons r s j d _ 41 l2 hm.rd HL.out).mono ?_
          rintro e w1 ⟨rfl, hb1⟩
          have hm1 := hm.below hb1
          have c2 : _ = some (Value.int .i64 d) := hm1.rd.cell 2
          go_wp2_with fail
          refine (must_ok _ 62 _).mono ?_
          rintro e w2 ⟨rfl, rfl⟩
          cases t with
          | none =>
            obtain rfl : u3 = .pointer none := ho
            go_wp2_with fail
            refine (node_calls 0 none 0 0 _).mono ?_
            rintro e w5 ⟨rfl, rfl⟩
            go_wp2
            go_ret
            rw [← HR.out]
            have hm2 := hm1.below ((Below.refl _ _).alloc (Nat.le_refl _) (.cells (nodeCells 0 0 (.slice none 0 0)) 52))
            exact ⟨_, j, rfl, hm2.kept, hm2.rd, hm2.le, HL.out, hm1.size, by simp, Blk.new _ _ _⟩
          | some t =>
            obtain ⟨p, rfl, ht⟩ := ho
            have ht1 := ht.below hb1 (Nat.le_refl _) hb1.size
            go_wp2
            go_ret
            rw [← HR.out]
            exact ⟨p, j, rfl, hm1.kept, hm1.rd, hm1.le, HL.out, ht1⟩
      · rw [if_neg (by simp [b41])] at hrun
        have e41 : ((b.toNat : Int) != 41) = true := u8_bne (c := 41) b41
        by_cases b124 : b = 124
        · subst b124
          rw [if_pos (.inl rfl)] at hrun
          injection hrun with hrun
          have HR := Lib.hid hrun
          clear hl hrun e41 b41
          go_wp2_with fail
          refine (peek_cons r s j d _ 124 l2 hm.rd HL.out).mono ?_
          rintro e w1 ⟨rfl, hb1⟩
          have hm1 := hm.below hb1
          go_wp2_with fail
          refine (must_ok _ 62 _).mono ?_
          rintro e w2 ⟨rfl, rfl⟩
          cases t with
          | none =>
            obtain rfl : u3 = .pointer none := ho
            go_wp2_with fail
            refine (node_calls 0 none 0 0 _).mono ?_
            rintro e w5 ⟨rfl, rfl⟩
            go_wp2
            go_ret
            rw [← HR.out]
            have hm2 := hm1.below ((Below.refl _ _).alloc (Nat.le_refl _) (.cells (nodeCells 0 0 (.slice none 0 0)) 52))
            exact ⟨_, j, rfl, hm2.kept, hm2.rd, hm2.le, HL.out, hm1.size, by simp, Blk.new _ _ _⟩
          | some t =>
            obtain ⟨p, rfl, ht⟩ := ho
            have ht1 := ht.below hb1 (Nat.le_refl _) hb1.size
            go_wp2
            go_ret
            rw [← HR.out]
            exact ⟨p, j, rfl, hm1.kept, hm1.rd, hm1.le, HL.out, ht1⟩
        · rw [if_neg (by simp [b41, b124])] at hrun
          have e124 : ((b.toNat : Int) != 124) = true := u8_bne (c := 124) b124
          rw [← hl] at hrun
          have HR := Lib.hid hrun
          clear hl hrun b41 b124
          go_wp2_with fail
          refine (peek_cons r s j d _ b l2 hm.rd HL.out).mono ?_
          rintro e w1 ⟨rfl, hb1⟩
          have hm1 := hm.below hb1
          go_wp2_with fail
          refine (must_ok _ 62 _).mono ?_
          rintro e w2 ⟨rfl, rfl⟩
          rcases Res.then_some HR.out with ⟨u, l3, h1, h2⟩ | ⟨c, h1, h2⟩
          · have H1 := Lib.hid h1
            have H2 := Lib.hid h2
            clear h1 h2
            go_wp2_with fail
            refine (IH.out m (by have := HGK.out; omega) r s j d _ _ hm1.rd hjlt hs hd H1.out).mono ?_
            rintro e w3 ⟨pb, j3, rfl, hk3, hr3, hj3, hl3, ht3⟩
            have hm3 : RdMem w w3 r s d j3 := ⟨hm1.kept.trans (hk3.mono hm1.kept.size (fun _ _ h => h)), hr3, hj3⟩
            rw [← hl3] at H2
            cases t with
            | none =>
              obtain rfl : u3 = .pointer none := ho
              go_wp2
              go_roundg m
              case measure => rw [HGK.out]; omega
              case rel => exact ⟨some u, j3, by have := HGK.out; omega, H2.out, hm3, pb, rfl, ht3.keep hm1.size (Nat.le_refl _) (fun _ _ _ => rfl)⟩
            | some t =>
              obtain ⟨p, rfl, ht⟩ := ho
              have ht4 : TreeAt w3 t w.heap.size w1.heap.size p := (ht.below hb1 (Nat.le_refl _) hb1.size).kept hk3 (Nat.le_refl _) (Nat.le_refl _) hrl
              clear hk3 hr3 hl3 ht hm hm1 hb1
              obtain ⟨wy, rfl⟩ : ∃ wy, wy = w3 := ⟨_, rfl⟩
              go_wp2_with fail
              refine (node_calls 2 (some ⟨wy.heap.size, 0, none⟩) 2 2 _).mono ?_
              rintro e w5 ⟨rfl, rfl⟩
              go_wp2
              go_roundg m
              case measure => rw [HGK.out]; omega
              case rel => exact ⟨some (.cat t u), j3, by have := HGK.out; omega, H2.out, hm3.grow _ _, wy.heap.size + 1, by simp, two_new 2 ht4 ht3⟩
          · have H1 := Lib.hid h1
            have H2 := Lib.hid h2
            clear h1 h2
            go_wp2_with fail
            refine (IH.out m (by have := HGK.out; omega) r s j d _ _ hm1.rd hjlt hs hd H1.out).mono ?_
            rintro e w3 ⟨rfl, hk3⟩
            refine leave_fault rfl ?_
            rw [H2.out]
            exact ⟨rfl, hm1.kept.trans (hk3.mono hm1.kept.size (fun _ _ h => h))⟩

end Go.Proofs.Ytlmnincllndpnaa
