/- The walks of layer 16 (wal): a segment begun. -/
import Derived.Test.YtfpgbhimgfdddaaGreatDoorWalWalksA
import Derived.Test.YtfpgbhimgfdddaaGreatDoorWak17
import Derived.Test.YtfpgbhimgfdddaaGreatDoorWak08
import Derived.Test.YtfpgbhimgfdddaaGreatDoorWak14
set_option linter.unusedVariables false
set_option linter.unusedSimpArgs false
namespace Go.Proofs.YtfpgbhimgfdddaaGreatDoor
open Go.RowKit Go.Shelf Go.Sort
attribute [local go_sem ↓] Go.wp_at_zero Go.wp_at_succ
attribute [local go_sem] Later.cell Later.frozen

section
variable {B0 M p g : Nat} {a : Nat → Addr} {R R' : Nat → Nat} {d : Ds} {w w' : World} {D : ByteArray} {size last used : Int}
theorem Dk.cut (h : Dk B0 M w R p d) (hM : M ≤ 536870912) (hB : B0 ≤ w.heap.size) (hF : Fails B0 a w) (hF6 : Fail6 B0 a w) (S : ByteArray) (n : Nat) (hS : S.size ≤ 1073741824) (hn : n ≤ 1073741824) :
    Calls Tryz.prog 128 #[.pointer (some ⟨p, 0, none⟩), .string S, .int .i64 (n : Int)] w (DkOut a B0 (M + 1) R p (cutD d S.data.toList (n : Int)) w) := by
  obtain ⟨A, hc, rfl⟩ := h.ex
  exact (cut_calls S n w hc (h.wf.fit hM) hS hB hF hF6 (by omega) (by omega) (h.wf.nl hM) (h.wf.sl hM)).mono fun _ _ k => .of k.weak (h.wf.cut _ _)
theorem Dk.flip (h : Dk B0 M w R p d) (hM : M ≤ 536870912) (hB : B0 ≤ w.heap.size) (hF : Fails B0 a w) (hF6 : Fail6 B0 a w) (S : ByteArray) (k : Nat) (m : UInt8) (hS : S.size ≤ 1073741824) (hk : k ≤ 1073741824) :
    Calls Tryz.prog 37 #[.pointer (some ⟨p, 0, none⟩), .string S, .int .i64 (k : Int), .int .u8 m.toNat] w (DkOut a B0 (M + 1) R p (flipD d S.data.toList (k : Int) m) w) := by
  obtain ⟨A, hc, rfl⟩ := h.ex
  exact (flip_calls S k m w hc (h.wf.fit hM) hS hB hF hF6 (by omega) (by omega) (h.wf.nl hM)).mono fun _ _ k => .of k.weak (h.wf.flip _ _ _)
/-- An error's value that is nil. -/
theorem ErrW.z {a : Nat → Addr} {w : World} {R : Nat → Nat} {v : Value} (h : ErrW a w R 0 v) : v = .nilIface := h
/-- A log and its disk, and what both stand on. -/
structure WAt (B0 : Nat) (a : Nat → Addr) (M p g : Nat) (R : Nat → Nat) (D : ByteArray) (size last used : Int) (d : Ds) (w : World) : Prop where
  dk : Dk B0 M w R p d
  lg : LogAt w g p D size last used
  r0 : R g = 0
  gb : B0 ≤ g
  en : SEnv B0 a w
  f6 : Fail6 B0 a w
theorem WAt.below (h : WAt B0 a M p g R D size last used d w) (hC : SCon B0 a) (hb : Below w.heap.size w w') : WAt B0 a M p g R D size last used d w' := ⟨h.dk.below hb, h.lg.below hb, h.r0, h.gb, h.en.low hC hb, h.f6.below (hb.mono h.en.hb)⟩
theorem WAt.more {M' : Nat} (h : WAt B0 a M p g R D size last used d w) (hM : M ≤ M') : WAt B0 a M' p g R D size last used d w := ⟨h.dk.more hM, h.lg, h.r0, h.gb, h.en, h.f6⟩
theorem WAt.out {M' : Nat} {d' : Ds} (h : WAt B0 a M p g R D size last used d w) (hC : SCon B0 a) (hd : Dk B0 M' w' R' p d') (ho : Out R R' w w') : WAt B0 a M' p g R' D size last used d' w' :=
  ⟨hd, ho.blk h.lg h.r0, ho.old g h.lg.lt h.r0, h.gb, h.en.out hC h.dk ho, h.f6.below (ho.below h.en.hb h.dk.low)⟩
theorem WAt.set (h : WAt B0 a M p g R D size last used d w) (hC : SCon B0 a) (l2 u2 : Int) : WAt B0 a M p g R D size l2 u2 d ((w.setCell ⟨g, 3, none⟩ (.int .i64 l2)).setCell ⟨g, 4, none⟩ (.int .i64 u2)) :=
  ⟨(h.dk.setG h.r0 _ _).setG h.r0 _ _, h.lg.set _ _, h.r0, h.gb, h.en.below hC ((OutG.set g R w 3 _).trans (OutG.set g R _ 4 _) |>.below h.en.hb h.dk.low h.gb), h.f6.below ((OutG.set g R w 3 _).trans (OutG.set g R _ 4 _) |>.below h.en.hb h.dk.low h.gb)⟩
theorem WAt.setU (h : WAt B0 a M p g R D size last used d w) (hC : SCon B0 a) (u2 : Int) : WAt B0 a M p g R D size last u2 d (w.setCell ⟨g, 4, none⟩ (.int .i64 u2)) :=
  ⟨h.dk.setG h.r0 _ _, h.lg.setU _, h.r0, h.gb, h.en.below hC ((OutG.set g R w 4 _).below h.en.hb h.dk.low h.gb), h.f6.below ((OutG.set g R w 4 _).below h.en.hb h.dk.low h.gb)⟩
theorem WAt.path (h : WAt B0 a M p g R D size last used d w) (hC : SCon B0 a) (n : Int) (h1 : -9223372036854775808 ≤ n) (h2 : n ≤ 9223372036854775807) (hDs : D.size ≤ 1000) (P : ByteArray) (hP : P.data.toList = wP D.data.toList n) :
    ∀ x : Later w, Calls Tryz.prog 90 #[.pointer (some ⟨g, 0, none⟩), .int .i64 n] x.w fun e w' => e = .returned (.string P) ∧ Below x.w.heap.size x.w w' := fun x =>
  wpath_calls n h1 h2 (by omega) P hP x.w (h.lg.below x.h) (h.en.low hC x.h).pow (Nat.lt_of_lt_of_le hC.pow (h.en.low hC x.h).hb)
theorem wP_size {D P : ByteArray} {n : Int} (hP : P.data.toList = wP D.data.toList n) (hDs : D.size ≤ 1000) : P.size ≤ 1073741824 := by
  rw [← text_size3, hP]
  unfold wP nameT
  split
  · simp only [List.length_append, text_size3]; simp; omega
  · simp only [List.length_append, text_size3, padN_len]; simp [sS]; omega
theorem wP_bytes (D : ByteArray) (n : Int) : ∃ P : ByteArray, P.data.toList = wP D.data.toList n := ⟨⟨(wP D.data.toList n).toArray⟩, rfl⟩
set_option maxRecDepth 100000 in
set_option maxHeartbeats 4000000 in
theorem begin_calls (n : Nat) (hn : n ≤ 99999999) (hDs : D.size ≤ 1000) (w : World) (hA : WAt B0 a M p g R D size last used d w) (hM : M + 2 ≤ 536870912) (hC : SCon B0 a)
    (hcr : (createD d (wP D.data.toList (n : Int))).1 = 0) (hsn : (syncNamesD (createD d (wP D.data.toList (n : Int))).2).1 = 0) :
    Calls Tryz.prog 94 #[.pointer (some ⟨g, 0, none⟩), .int .i64 (n : Int)] w fun e w' => e = .returned .nilIface ∧ ∃ R', WAt B0 a (M + 2) p g R' D size (n : Int) 0 (beginD D.data.toList d (n : Int)) w' ∧ OutG g R R' w w' := by
  obtain ⟨P, hP⟩ := wP_bytes D (n : Int)
  have hPs := wP_size hP hDs
  have hc0 := hA.lg.c0
  have hgl := hA.lg.lt
  have HPA := Lib.hid (hA.path hC (n : Int) (by omega) (by omega) hDs P hP)
  obtain ⟨r1, hr1⟩ : ∃ r, createD d (wP D.data.toList (n : Int)) = r := ⟨_, rfl⟩
  have hbd : beginD D.data.toList d (n : Int) = (syncNamesD r1.2).2 := by unfold beginD; rw [hr1]
  rw [hr1] at hcr hsn
  rw [hbd]
  have HA := Lib.hid hA
  have HC := Lib.hid hC
  have HR1 := Lib.hid (⟨hr1, hcr, hsn, hP⟩ : _ ∧ _ ∧ _ ∧ _)
  obtain ⟨nz, hnz⟩ : ∃ z : Int, (n : Int) = z := ⟨_, rfl⟩
  rw [hnz] at HPA HR1 ⊢
  clear hA hC hr1 hcr hsn hP hbd hnz hn
  go_enter Tryz.func94, Tryz.ntmps94
  go_upto_region 1 with fail
  refine wp_region_later_tail 7 (by kernel_rfl) (by kernel_rfl) ?_
  simp only [List.take_succ_cons, List.take_zero, List.drop_succ_cons, List.drop_zero]
  repeat (go_big_quiet_step ((go_at_call 90; exact quiet_later _ (HPA.out _))))
  refine wpQuiet_nil ?_
  rintro w1 ⟨⟨w1, hb1⟩, rfl⟩
  have HA1 := Lib.hid (HA.out.below HC.out hb1)
  have HCR := Lib.hid (HA1.out.dk.create (by omega) HA1.out.en.hb HA1.out.en.e.f P hPs)
  rw [HR1.out.2.2.2, HR1.out.1] at HCR
  have HO1 : Hid (OutG g R R w w1) := Lib.hid (.of (.of_below hb1))
  clear hb1 hc0 hgl
  go_wp2_with fail
  refine HCR.out.mono ?_
  rintro e w2 ⟨v2, R2, rfl, hv2, hd2, ho2⟩
  rw [HR1.out.2.1] at hv2
  obtain rfl := hv2.z
  have HA2 := Lib.hid (HA1.out.out HC.out hd2 ho2)
  have HO2 := Lib.hid (HO1.out.trans (.of ho2))
  clear hv2 hd2 ho2
  have c3 := HA2.out.lg.c3
  have c4 := HA2.out.lg.c4
  have f3 : w2.frozen? ⟨g, 3, none⟩ = false := Blk.frozen HA2.out.lg 3
  have f4 : w2.frozen? ⟨g, 4, none⟩ = false := Blk.frozen HA2.out.lg 4
  go_upto_region 5 with fail
  obtain ⟨w3, hw3⟩ : ∃ x, (w2.setCell ⟨g, 3, none⟩ (.int .i64 nz)).setCell ⟨g, 4, none⟩ (.int .i64 0) = x := ⟨_, rfl⟩
  have HA3 : Hid (WAt B0 a (M + 1) p g R2 D size nz 0 r1.2 w3) := Lib.hid (by rw [← hw3]; exact HA2.out.set HC.out _ _)
  have HO3 : Hid (OutG g R R2 w w3) := Lib.hid (by rw [← hw3]; exact HO2.out.trans ((OutG.set g R2 w2 3 _).trans (OutG.set g R2 _ 4 _)))
  rw [hw3]
  clear c3 c4 f3 f4 hw3
  have c0 := HA3.out.lg.c0
  have HSN := Lib.hid (HA3.out.dk.syncNames (by omega) HA3.out.en.hb HA3.out.en.e.f)
  go_wp2_with fail
  refine HSN.out.mono ?_
  rintro e w4 ⟨v4, R4, rfl, hv4, hd4, ho4⟩
  rw [HR1.out.2.2.1] at hv4
  obtain rfl := hv4.z
  have HA4 := Lib.hid (HA3.out.out HC.out hd4 ho4)
  have HO4 := Lib.hid (HO3.out.trans (.of ho4))
  clear hv4 hd4 ho4 c0
  go_wp2_with fail
  go_ret
  exact ⟨rfl, R4, HA4.out, HO4.out⟩
end
end Go.Proofs.YtfpgbhimgfdddaaGreatDoor
