/- The walk of the reader's atom, and all of the reader's functions together. -/
import Derived.Test.YtlmnincllndpnaaRexWalksC
namespace Go.Proofs.Ytlmnincllndpnaa
open Go.RowKit
attribute [local go_sem ↓] Go.wp_at_zero Go.wp_at_succ
attribute [local go_sem] Later.cell Later.frozen

theorem Rd.depth {w : World} {r : Nat} {s : ByteArray} {i d : Nat} (h : Rd w r s i d) (d' : Nat) (x : Int) (hx : x = d') : Rd (w.setCell ⟨r, 2, none⟩ (.int .i64 x)) r s i d' := by
  have := Blk.set_ h 2 (.int .i64 x)
  subst hx
  simpa [Rd] using this

/-- In an atom: the new node at block p. -/
structure AtomMem (w wr : World) (r : Nat) (s : ByteArray) (d j p v : Nat) : Prop where
  mem : RdMem w wr r s d j
  node : Blk wr p 52 (nodeCells 1 v (.slice none 0 0))
  new : w.heap.size ≤ p
  ne : p ≠ r
theorem AtomMem.out {w wr : World} {r d j p v : Nat} {s : ByteArray} {l : List UInt8} (h : AtomMem w wr r s d j p v) (hl : s.data.toList.drop j = l) (hv : v < 2 ^ 256) : RdOut w r s d (.ok (.cls v, l)) (.returned (.pointer (some ⟨p, 0, none⟩))) wr :=
  ⟨p, j, rfl, h.mem.kept, h.mem.rd, h.mem.le, hl, h.new, h.node.lt, hv, h.node⟩
theorem AtomMem.put {w wr w' : World} {r d j p v v' : Nat} {s : ByteArray} (h : AtomMem w wr r s d j p v) (hk : Kept wr.heap.size [p] wr w') (hn : Blk w' p 52 (nodeCells 1 v' (.slice none 0 0))) : AtomMem w w' r s d j p v' :=
  ⟨⟨h.mem.kept.trans (hk.mono h.mem.size (fun k hk hm => by have := h.new; simp at hm; omega)), h.mem.rd.kept hk h.mem.rd.lt (by simpa using h.ne.symm), h.mem.le⟩, hn, h.new, h.ne⟩

set_option maxRecDepth 100000 in
set_option maxHeartbeats 2000000 in
theorem atom_calls (n : Nat) (ih : ∀ m, m < n → BranchesOk m) : AtomOk n := by
  intro r s i d w res hrd hi hs hd hrun
  obtain ⟨n, rfl⟩ := run_pos hrun
  have IH : Hid (∀ m, m < n + 1 → BranchesOk m) := ih
  clear ih
  obtain ⟨l, hl⟩ : ∃ l, s.data.toList.drop i = l := ⟨_, rfl⟩
  match l, hl with
  | [], hl => have := drop_none (Nat.le_of_lt hi) hl; omega
  | b :: l, hl =>
    rw [hl, run_atom] at hrun
    obtain ⟨_, hsb, hl'⟩ := drop_some hl
    have HSB : Hid (s[i] = b) := hsb
    have HRUN := Lib.hid hrun
    have HL' := Lib.hid hl'
    clear hrun hl hsb hl'
    have h0 : _ = some (Value.string s) := hrd.cell 0
    have h1 : _ = some (Value.int .i64 i) := hrd.cell 1
    have hf := hrd.frozen 1
    have hrl := hrd.lt
    go_enter Try.func55, Try.ntmps55
    go_wp2_with fail
    go_quiet (fail)
    go_wp2_with fail
    refine (node_calls 1 none 0 0 _).mono ?_
    rintro e w5 ⟨rfl, rfl⟩
    have hb0 : Below w.heap.size w ((w.drewN nq).alloc (.cells (nodeCells 1 0 (.slice none 0 0)) 52)) := (below_drewN (Below.refl _ _) _).alloc (by simp) _
    have hn0 : Blk ((w.drewN nq).alloc (.cells (nodeCells 1 0 (.slice none 0 0)) 52)) w.heap.size 52 (nodeCells 1 0 (.slice none 0 0)) := Blk.newAt (by simp)
    obtain ⟨wv, hwv⟩ : ∃ wv, (w.drewN nq).alloc (.cells (nodeCells 1 0 (.slice none 0 0)) 52) = wv := ⟨_, rfl⟩
    rw [hwv] at hb0 hn0 ⊢
    clear hwv h0 h1 hf
    have hrv := hrd.below hb0
    have h1 : _ = some (Value.int .i64 i) := hrv.cell 1
    have hf := hrv.frozen 1
    go_upto_region 4 with fail
    go_cut [3, 25] (fun s3 s25 wx => s3 = .int .u8 b.toNat ∧ s25 = .int .u8 b.toNat ∧ AtomMem w wx r s d (i + 1) w.heap.size 0)
    case first =>
      go_wp2
      go_meet
      exact ⟨by rw [HSB.out], by rw [HSB.out], ⟨(Kept.of_below hb0).setCell (.inl (by simp)) _, hrv.step, hi⟩, hn0.far (by simp; omega) _, Nat.le_refl _, by omega⟩
    case rest =>
      obtain ⟨rfl, rfl, hm⟩ := hcut
      obtain ⟨wx, rfl⟩ : ∃ wx, wx = wc := ⟨_, rfl⟩
      clear hb0 hn0 hrv h1 hf
      by_cases b42 : b = 42
      · subst b42
        have hres : res = .error 64 := by have := HRUN.out; simp only [true_or, if_true] at this; injection this with this; exact this.symm
        subst hres
        go_wp2
        exact leave_fault rfl ⟨rfl, hm.mem.kept⟩
      by_cases b43 : b = 43
      · subst b43
        have hres : res = .error 64 := by have := HRUN.out; simp only [true_or, or_true, if_true] at this; injection this with this; exact this.symm
        subst hres
        go_wp2
        exact leave_fault rfl ⟨rfl, hm.mem.kept⟩
      by_cases b63 : b = 63
      · subst b63
        have hres : res = .error 64 := by have := HRUN.out; simp only [or_true, if_true] at this; injection this with this; exact this.symm
        subst hres
        go_wp2
        exact leave_fault rfl ⟨rfl, hm.mem.kept⟩
      have hrun := HRUN.out
      rw [if_neg (by simp [b42, b43, b63])] at hrun
      have e42 : ((b.toNat : Int) == 42) = false := u8_ne (c := 42) b42
      have e43 : ((b.toNat : Int) == 43) = false := u8_ne (c := 43) b43
      have e63 : ((b.toNat : Int) == 63) = false := u8_ne (c := 63) b63
      clear HRUN b42 b43 b63
      by_cases b40 : b = 40
      · subst b40
        rw [if_pos rfl] at hrun
        have c2 : _ = some (Value.int .i64 d) := hm.mem.rd.cell 2
        have f2 := hm.mem.rd.frozen 2
        by_cases hd16 : d < 16
        · rw [if_pos hd16] at hrun
          have HRUN := Lib.hid hrun
          clear hrun
          go_wp2_with fail
          rw [decide_eq_true (by omega)]
          refine (must_ok _ 66 _).mono ?_
          rintro e w2 ⟨rfl, rfl⟩
          have hr1 := hm.mem.rd.depth (d + 1) ((d : Int) + 1) (by omega)
          have hk1 : Kept w.heap.size [r] w (wx.setCell ⟨r, 2, none⟩ (.int .i64 ((d : Int) + 1))) := hm.mem.kept.setCell (.inl (by simp)) _
          have hz1 : w.heap.size ≤ (wx.setCell ⟨r, 2, none⟩ (.int .i64 ((d : Int) + 1))).heap.size := hk1.size
          rcases Res.then_some HRUN.out with ⟨t, l2, g1, g2⟩ | ⟨c, g1, g2⟩
          · rw [← HL'.out] at g1
            have G1 := Lib.hid g1
            have G2 := Lib.hid g2
            clear g1 g2 HRUN
            go_wp2_with fail
            refine (IH.out n (by omega) r s (i + 1) (d + 1) _ _ hr1 hm.mem.le hs (by omega) G1.out).mono ?_
            rintro e w3 ⟨p3, j3, rfl, hk3, hr3, hj3, hl3, ht3⟩
            have hk4 := hk1.trans (hk3.mono hz1 (fun _ _ h => h))
            have ht4 : TreeAt w3 t w.heap.size w3.heap.size p3 := ht3.keep hz1 (Nat.le_refl _) (fun _ _ _ => rfl)
            have HL3 := Lib.hid hl3
            clear hl3 hk3 ht3 hk1 hz1 hr1 c2 f2 hm
            obtain ⟨wy, rfl⟩ : ∃ wy, wy = w3 := ⟨_, rfl⟩
            match l2, G2, HL3 with
            | [], G2, HL3 =>
              go_wp2_with fail
              refine (peek_nil r s j3 (d + 1) _ hr3 hj3 HL3.out).mono ?_
              rintro e w4 ⟨rfl, hb4⟩
              go_wp2_with fail
              refine (must_no _ 61 _).mono ?_
              rintro e w2 ⟨rfl, rfl⟩
              refine leave_fault rfl ?_
              have hres := G2.out
              injection hres with hres
              rw [← hres]
              exact ⟨rfl, hk4.then_ hb4⟩
            | c :: l3, G2, HL3 =>
              obtain ⟨hlt3, _, hd3⟩ := drop_some HL3.out
              have HD3 := Lib.hid hd3
              clear hd3
              go_wp2_with fail
              refine (peek_cons r s j3 (d + 1) _ c l3 hr3 HL3.out).mono ?_
              rintro e w4 ⟨rfl, hb4⟩
              have hr5 := hr3.below hb4
              have c1 : _ = some (Value.int .i64 j3) := hr5.cell 1
              have f1 := hr5.frozen 1
              have c2 : _ = some (Value.int .i64 (d + 1 : Nat)) := hr5.cell 2
              have f2 := hr5.frozen 2
              go_wp2_with fail
              refine (must_ok _ 61 _).mono ?_
              rintro e w5 ⟨rfl, rfl⟩
              go_wp2
              go_ret
              have hres := G2.out
              injection hres with hres
              rw [← hres]
              refine ⟨p3, j3 + 1, rfl, ((hk4.then_ hb4).setCell (.inl (by simp)) _).setCell (.inl (by simp)) _, hr5.step.depth d _ (by omega), hlt3, HD3.out, ?_⟩
              exact (ht4.below hb4 (Nat.le_refl _) hb4.size).keep (Nat.le_refl _) (by simp [World.setCell]) (fun b hlo _ => (Below.heap_setCell _ _ _ _ (by simp; omega)).trans (Below.heap_setCell _ _ _ _ (by simp; omega)))
          · rw [← HL'.out] at g1
            have G1 := Lib.hid g1
            have G2 := Lib.hid g2
            clear g1 g2 HRUN
            go_wp2_with fail
            refine (IH.out n (by omega) r s (i + 1) (d + 1) _ _ hr1 hm.mem.le hs (by omega) G1.out).mono ?_
            rintro e w3 ⟨rfl, hk3⟩
            refine leave_fault rfl ?_
            rw [G2.out]
            exact ⟨rfl, hk1.trans (hk3.mono hz1 (fun _ _ h => h))⟩
        · rw [if_neg hd16] at hrun
          injection hrun with hrun
          subst hrun
          go_wp2_with fail
          rw [decide_eq_false (by omega)]
          refine (must_no _ 66 _).mono ?_
          rintro e w2 ⟨rfl, rfl⟩
          exact leave_fault rfl ⟨rfl, hm.mem.kept⟩
      rw [if_neg b40] at hrun
      have e40 : ((b.toNat : Int) == 40) = false := u8_ne (c := 40) b40
      clear b40
      by_cases b91 : b = 91
      · subst b91
        rw [if_pos rfl, ← HL'.out] at hrun
        have HRUN := Lib.hid hrun
        clear hrun
        cases res with
        | error c =>
          go_wp2_with fail
          refine (class_calls n r w.heap.size s (i + 1) d (.slice none 0 0) _ _ ⟨Kept.refl _ _ _, hm.mem.rd, hm.node, hm.mem.le, Nat.two_pow_pos 256⟩ hm.ne hs HRUN.out).mono ?_
          rintro e w2 ⟨rfl, hk⟩
          exact leave_fault rfl ⟨rfl, hm.mem.kept.trans (hk.mono hm.mem.size (fun k hk hm => by simp at hm ⊢; omega))⟩
        | ok tl =>
          obtain ⟨t, l2⟩ := tl
          go_wp2_with fail
          refine (class_calls n r w.heap.size s (i + 1) d (.slice none 0 0) _ _ ⟨Kept.refl _ _ _, hm.mem.rd, hm.node, hm.mem.le, Nat.two_pow_pos 256⟩ hm.ne hs HRUN.out).mono ?_
          rintro e w2 ⟨v, j, rfl, hl2, rfl, hc⟩
          have HL2 := Lib.hid hl2
          clear hl2
          go_wp2
          go_ret
          have hmm : AtomMem w w2 r s d j w.heap.size v := ⟨⟨hm.mem.kept.trans (hc.kept.mono hm.mem.size (fun k hk hm => by simp at hm ⊢; omega)), hc.rd, hc.le⟩, hc.node, Nat.le_refl _, hm.ne⟩
          exact hmm.out HL2.out hc.lt
      rw [if_neg b91] at hrun
      have e91 : ((b.toNat : Int) == 91) = false := u8_ne (c := 91) b91
      clear b91
      by_cases b46 : b = 46
      · subst b46
        rw [if_pos rfl] at hrun
        injection hrun with hrun
        subst hrun
        go_wp2_with fail
        refine (put_calls w.heap.size 1 (.slice none 0 0) 0 0 255 _ hm.node (by decide) (by decide)).mono ?_
        rintro e w2 ⟨rfl, hk, hn⟩
        go_wp2
        go_ret
        exact (hm.put hk hn).out HL'.out (putR_lt (Nat.two_pow_pos 256) (by decide))
      rw [if_neg b46] at hrun
      have e46 : ((b.toNat : Int) == 46) = false := u8_ne (c := 46) b46
      clear b46
      by_cases b92 : b = 92
      · subst b92
        rw [if_pos rfl] at hrun
        match l, hrun, HL' with
        | [], hrun, HL' =>
          injection hrun with hrun
          subst hrun
          go_wp2_with fail
          refine (escaped_nil r s (i + 1) d _ hm.mem.rd hm.mem.le HL'.out).mono ?_
          rintro e w2 ⟨rfl, hk⟩
          exact leave_fault rfl ⟨rfl, hm.mem.kept.trans (hk.mono hm.mem.size (fun _ _ h => h))⟩
        | c :: l, hrun, HL' =>
          injection hrun with hrun
          subst hrun
          have hcl := UInt8.toNat_lt c
          obtain ⟨hlt2, _, hd2⟩ := drop_some HL'.out
          have HD2 := Lib.hid hd2
          clear hd2
          go_wp2_with fail
          refine (escaped_cons r s (i + 1) d _ c l hm.mem.rd hs HL'.out).mono ?_
          rintro e w2 ⟨rfl, hk, hr2⟩
          have hm2 : AtomMem w w2 r s d (i + 1 + 1) w.heap.size 0 := ⟨⟨hm.mem.kept.trans (hk.mono hm.mem.size (fun _ _ h => h)), hr2, hlt2⟩, hm.node.kept hk hm.node.lt (by simpa using hm.ne), Nat.le_refl _, hm.ne⟩
          go_wp2_with fail
          refine (put_calls w.heap.size 1 (.slice none 0 0) 0 c.toNat c.toNat _ hm2.node (by omega) (by omega)).mono ?_
          rintro e w3 ⟨rfl, hk3, hn⟩
          go_wp2
          go_ret
          exact (hm2.put hk3 hn).out HD2.out (putR_lt (Nat.two_pow_pos 256) (by omega))
      rw [if_neg b92] at hrun
      have e92 : ((b.toNat : Int) == 92) = false := u8_ne (c := 92) b92
      have hbl := UInt8.toNat_lt b
      injection hrun with hrun
      subst hrun
      clear b92
      go_wp2_with fail
      refine (put_calls w.heap.size 1 (.slice none 0 0) 0 b.toNat b.toNat _ hm.node (by omega) (by omega)).mono ?_
      rintro e w3 ⟨rfl, hk3, hn⟩
      go_wp2
      go_ret
      exact (hm.put hk3 hn).out HL'.out (putR_lt (Nat.two_pow_pos 256) (by omega))

end Go.Proofs.Ytlmnincllndpnaa
