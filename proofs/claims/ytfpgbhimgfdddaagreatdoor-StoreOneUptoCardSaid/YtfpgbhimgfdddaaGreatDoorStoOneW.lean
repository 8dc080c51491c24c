/- The walk of the law StoreOne (layer 20): whatever is done to a manifest's bytes, what is read is refused, or is a fit manifest whose bytes they are (printed by gen_stoone.py). -/
import Derived.Test.YtfpgbhimgfdddaaGreatDoorStk34
import Derived.Test.YtfpgbhimgfdddaaGreatDoorStk35
import Derived.Test.YtfpgbhimgfdddaaGreatDoorStoOneA
import Derived.Test.YtfpgbhimgfdddaaGreatDoorStk19
import Derived.Lib.IfaceEq
set_option linter.unusedVariables false
set_option linter.unusedSimpArgs false
namespace Go.Proofs.YtfpgbhimgfdddaaGreatDoor
open Go.RowKit Go.Shelf Go.Sort
attribute [local go_sem ↓] Go.wp_at_zero Go.wp_at_succ
attribute [local go_sem] Later.cell Later.frozen

section
variable {B0 : Nat} {a : Nat → Addr}
theorem run_assertedC (v : Value) (w : World) : (Instr.typeAssert (.iface 51 v) 32 51 true).run Tryz.prog w = .ok (.tuple #[v, .bool true]) w := by
  simp [Instr.typeAssert, run_underlying Tryz.underlying51, go_sem, Result.andThen]
/-- Encode's text, whatever the manifest. -/
theorem enc_any (m : Man) (A : Option Addr) (c : Nat) (w : World) (hinf : Infs w A m.blocks.length m.blocks) (hlen : m.blocks.length ≤ 3518437208780) (hsm : m.small) (hT : NibTab w) :
    ∃ (T : ByteArray) (k : Int), T.size ≤ 140737488355328 ∧ Calls Tryz.prog 10 #[.agg (manV m (.slice A m.blocks.length c))] w fun e w' => e = .returned (.tuple #[.string T, .int .i64 k]) ∧ Below w.heap.size w w' := by
  by_cases hf : m.fit = true
  · refine ⟨⟨(encM m).toArray⟩, 0, ?_, enc_yes m A c w hinf hlen hsm hT hf⟩
    have h1 := fit_len hf
    have h2 := bodyAt_len m m.blocks.length (Nat.le_refl _)
    rw [bodyAt_full] at h2
    show (encM m).toArray.size ≤ _
    rw [List.size_toArray]
    unfold encM
    rw [sealT_len]
    omega
  · exact ⟨⟨#[]⟩, 150, by decide, enc_no m A c w hinf hlen hsm hT (fit_false hf)⟩
set_option maxRecDepth 100000 in
set_option maxHeartbeats 8000000 in
theorem storeone_calls (m : Man) (A : Option Addr) (c : Nat) (Ao : Option Addr) (k cT : Nat) (l : List Trn) (w : World) (hinf : Infs w A m.blocks.length m.blocks) (hlen : m.blocks.length ≤ 3518437208780) (hsm : m.small)
    (hT : Turns w Ao k l) (hi : ∀ y ∈ l, i64 y.at_ ∧ i64 y.out) (hsum : Trn.len l ≤ 1048576) (hkl : l.length ≤ 1048576) (hC : SCon B0 a) (hE : SEnv B0 a w) :
    Calls Tryz.prog 4 #[.agg (manV m (.slice A m.blocks.length c)), .slice Ao k cT] w fun e w' => e = .returned (.bool true) ∧ Below w.heap.size w w' := by
  obtain ⟨b, hb⟩ : ∃ b, w.heap.size = b := ⟨_, rfl⟩
  obtain ⟨W, hW⟩ : ∃ W, w.alloc (.cells (manV m (.slice A m.blocks.length c)) 25) = W := ⟨_, rfl⟩
  have hbl : Below w.heap.size w W := by rw [← hW]; exact (Below.refl _ _).alloc (Nat.le_refl _) _
  have HK : Hid (Blk W b 25 (manV m (.slice A m.blocks.length c))) := Lib.hid (by rw [← hW, ← hb]; exact Blk.new _ _ _)
  have HI := Lib.hid (hinf.below hbl)
  have HTU := Lib.hid (hT.below hbl)
  have HE := Lib.hid (hE.low hC hbl)
  have HC := Lib.hid hC
  have HW := Lib.hid hW
  have HG := Lib.hid hb
  have HB := Lib.hid hbl
  have HAI := Lib.hid hi
  have HSUM := Lib.hid hsum
  have HKL : Hid (l.length = k) := Lib.hid (Elems.len hT)
  have HKZ : Hid (k ≤ 1048576) := Lib.hid (by have := HKL.out; omega)
  have HEN : Hid (∀ w', Below W.heap.size W w' → ∃ (T : ByteArray) (q : Int), T.size ≤ 140737488355328 ∧ Calls Tryz.prog 10 #[.agg (manV m (.slice A m.blocks.length c))] w' fun e w2 => e = .returned (.tuple #[.string T, .int .i64 q]) ∧ Below w'.heap.size w' w2) := Lib.hid fun w' h => enc_any m A c w' (HI.out.below h) hlen hsm (HE.out.low HC.out h).nib
  have HWK : Hid (∀ w', Below W.heap.size W w' → Calls Tryz.prog 13 #[] w' fun e w2 => e = .returned (.bool true) ∧ Below w'.heap.size w' w2) := Lib.hid fun w' h => wakes20_calls w' HC.out (HE.out.low HC.out h)
  obtain ⟨n, hn⟩ : ∃ n, m.blocks.length = n := ⟨_, rfl⟩
  rw [hn] at HK HEN HW ⊢
  clear hW hb hbl hinf hlen hsm hC hE hn hT hi hsum hkl
  go_enter Tryz.func4, Tryz.ntmps4
  go_upto_region 1 with fail
  have hW2 := HW.out
  have hg2 := HG.out
  rw [hW2, hg2]
  clear hW2 hg2
  go_wp2_with fail
  refine (HWK.out W (Below.refl _ _)).mono ?_
  rintro e w1 ⟨rfl, hb1⟩
  have HBw1 := Lib.hid hb1
  clear hb1
  obtain ⟨T, q, hTz, hen⟩ := HEN.out w1 HBw1.out
  have HTZ := Lib.hid hTz
  have HEN1 := Lib.hid hen
  clear hTz hen
  have hbx := HBw1.out
  have x0 : w1.cell? ⟨b, 0, none⟩ = some (.int .i64 m.w0) := (HK.out.below hbx HK.out.lt).cell 0
  have x1 : w1.cell? ⟨b, 1, none⟩ = some (.int .i64 m.w1) := (HK.out.below hbx HK.out.lt).cell 1
  have x2 : w1.cell? ⟨b, 2, none⟩ = some (.int .i64 m.w2) := (HK.out.below hbx HK.out.lt).cell 2
  have x3 : w1.cell? ⟨b, 3, none⟩ = some (.int .i64 m.next) := (HK.out.below hbx HK.out.lt).cell 3
  have x4 : w1.cell? ⟨b, 4, none⟩ = some (.int .i64 m.log) := (HK.out.below hbx HK.out.lt).cell 4
  have x5 : w1.cell? ⟨b, 5, none⟩ = some ((.slice A n c)) := (HK.out.below hbx HK.out.lt).cell 5
  have x6 : w1.cell? ⟨b, 6, none⟩ = some (.int .i64 m.cut) := (HK.out.below hbx HK.out.lt).cell 6
  have x7 : w1.cell? ⟨b, 7, none⟩ = some (.int .i64 m.r0) := (HK.out.below hbx HK.out.lt).cell 7
  have x8 : w1.cell? ⟨b, 8, none⟩ = some (.int .i64 m.r1) := (HK.out.below hbx HK.out.lt).cell 8
  have x9 : w1.cell? ⟨b, 9, none⟩ = some (.int .i64 m.r2) := (HK.out.below hbx HK.out.lt).cell 9
  have x10 : w1.cell? ⟨b, 10, none⟩ = some (.int .i64 m.l0) := (HK.out.below hbx HK.out.lt).cell 10
  have x11 : w1.cell? ⟨b, 11, none⟩ = some (.int .i64 m.l1) := (HK.out.below hbx HK.out.lt).cell 11
  have x12 : w1.cell? ⟨b, 12, none⟩ = some (.int .i64 m.l2) := (HK.out.below hbx HK.out.lt).cell 12
  go_wp2_with fail
  refine HEN1.out.mono ?_
  rintro e w2 ⟨rfl, hb2⟩
  have HBw2 := Lib.hid (HBw1.out.trans (hb2.mono HBw1.out.size))
  clear x0 x1 x2 x3 x4 x5 x6 x7 x8 x9 x10 x11 x12
  clear hb2
  go_upto_block 0 with fail
  go_cut [5] (fun s5 wz => ∃ S : ByteArray, s5 = .string S ∧ S.data.toList = turnsT T.data.toList l ∧ Below W.heap.size W wz)
  case first =>
    go_wp2_with fail
    go_loopg [5, 28] k (fun g s5 sl wr => ∃ (i : Nat) (S : ByteArray), i + g = k ∧ s5 = .string S ∧ sl = .int .i64 (i : Int) ∧ S.data.toList = turnsT T.data.toList (l.take i) ∧ Below W.heap.size W wr)
    case atStart => exact ⟨0, T, by omega, rfl, rfl, rfl, HBw2.out⟩
    case round =>
      obtain ⟨i, S, hig, rfl, rfl, hS, hbr⟩ := hrel
      have HIG := Lib.hid hig
      have HS := Lib.hid hS
      have HBR := Lib.hid hbr
      clear hig hS hbr
      have hk1 := HKZ.out
      by_cases hik : i < k
      · have el : decide ((i : Int) < (k : Int)) = true := by simp; omega
        have e0 : (i : Int) < (k : Int) := by omega
        have e1 : (0 : Int) ≤ (i : Int) := by omega
        obtain ⟨y, hy⟩ : ∃ y, l[i]? = some y := ⟨_, List.getElem?_eq_getElem (by rw [HKL.out]; exact hik)⟩
        obtain ⟨bb, off, rfl, hbl, kc⟩ := (HTU.out.below HBR.out).at_ hy
        have m0 : wr.cell? ⟨bb, off + i * 3, none⟩ = some (.int .i64 y.at_) := kc 0 _ rfl
        have m1 : wr.cell? ⟨bb, off + i * 3 + 1, none⟩ = some (.int .i64 y.out) := kc 1 _ rfl
        have m2 : wr.cell? ⟨bb, off + i * 3 + 2, none⟩ = some (txtV y.t) := kc 2 _ rfl
        have hym : y ∈ l := List.mem_of_getElem? hy
        have hyi := HAI.out y hym
        have hyz := Trn.mem_len hym
        have hst := turnsT_step T.data.toList l i y hy
        obtain ⟨at_, out, t⟩ := y
        obtain ⟨I, hI⟩ : ∃ I : ByteArray, (⟨t.toArray⟩ : ByteArray) = I := ⟨_, rfl⟩
        have hIl : I.data.toList = t := by rw [← hI]
        have hIv : txtV t = .string I := by rw [← hI]; rfl
        dsimp only at m0 m1 m2 hyi hyz hst
        rw [hIv] at m2
        rw [← hIl, ← HS.out] at hst
        have HST := Lib.hid hst
        have hSz : S.size ≤ 140737489403904 := by
          have h1 := turnsT_len T.data.toList (l.take i)
          have h2 := Trn.len_take l i
          rw [← HS.out] at h1
          simp only [text_size3] at h1
          have := HTZ.out
          have := HSUM.out
          omega
        have hIz : I.size ≤ 1048576 := by
          rw [← text_size3, hIl]
          have := HSUM.out
          omega
        unfold i64 at hyi
        obtain ⟨⟨ha1, ha2⟩, ho1, ho2⟩ := hyi
        clear kc hy hym hyz hst hI hIl hIv
        go_upto_region 7 with fail
        obtain ⟨W7, hW7⟩ : ∃ X, wr.alloc (.cells #[.int .i64 at_, .int .i64 out, .string I] 48) = X := ⟨_, rfl⟩
        have HB7 : Hid (Below W.heap.size W W7) := Lib.hid (by rw [← hW7]; exact HBR.out.alloc HBR.out.size _)
        have kx : Blk W7 wr.heap.size 48 #[.int .i64 at_, .int .i64 out, .string I] := by rw [← hW7]; exact Blk.new wr _ _
        rw [hW7]
        clear hW7 m0 m1 m2
        obtain ⟨U, hU⟩ : ∃ Q, wr.heap.size = Q := ⟨_, rfl⟩
        rw [hU] at kx ⊢
        have m0 : W7.cell? ⟨U, 0, none⟩ = some (.int .i64 at_) := kx.cell 0
        have m1 : W7.cell? ⟨U, 1, none⟩ = some (.int .i64 out) := kx.cell 1
        have m2 : W7.cell? ⟨U, 2, none⟩ = some (.string I) := kx.cell 2
        clear kx hU
        obtain ⟨ka, hka⟩ : ∃ ka, turnA S.data.toList at_ = ka := ⟨_, rfl⟩
        obtain ⟨ke, hke⟩ : ∃ ke, turnE S.data.toList at_ out = ke := ⟨_, rfl⟩
        have HKA := Lib.hid hka
        have HKE := Lib.hid hke
        go_cut [9] (fun s9 wz => wz = W7 ∧ s9 = .int .i64 (ka : Int))
        case first =>
          go_wp2_with fail
          go_meet
          refine ⟨rfl, vi ?_⟩
          rw [← hka]
          unfold turnA
          rw [text_size3]
          omega
        case rest =>
          obtain ⟨rfl, rfl⟩ := hcut
          obtain ⟨W7, rfl⟩ : ∃ x, x = wc := ⟨_, rfl⟩
          have hle1 : ka ≤ S.size := by rw [← HKA.out, ← text_size3]; exact turnA_le _ _
          have hle2 : ka ≤ ke ∧ ke ≤ S.size := by rw [← HKA.out, ← HKE.out, ← text_size3]; exact turnE_le _ _ _
          clear hka hke
          go_upto_region 8 with fail
          go_cut [10] (fun s10 wz => wz = W7 ∧ s10 = .int .i64 (ke : Int))
          case first =>
            go_wp2_with fail
            go_meet
            refine ⟨rfl, vi ?_⟩
            rw [← HKE.out]
            unfold turnE
            rw [HKA.out, text_size3]
            omega
          case rest =>
            obtain ⟨rfl, rfl⟩ := hcut
            obtain ⟨W7, rfl⟩ : ∃ x, x = wc := ⟨_, rfl⟩
            obtain ⟨h1, h2⟩ := hle2
            have hs1 : (S.extract 0 ka).size = ka := by rw [← text_size3, take_bytes, List.length_take, text_size3]; omega
            have hs2 : (S.extract ke S.size).size = S.size - ke := by rw [← text_size3, drop_bytes, List.length_drop, text_size3]
            have d1 : (0 : Int) ≤ (ka : Int) := by omega
            have d2 : (ka : Int) ≤ (S.size : Int) := by omega
            have d3 : (0 : Int) ≤ (ke : Int) := by omega
            have d4 : (ke : Int) ≤ (S.size : Int) := by omega
            go_wp2_with fail
            go_region
            go_wp2_with fail
            go_roundg (gk - 1)
            case measure => have := HIG.out; omega
            case rel =>
              refine ⟨i + 1, _, by have := HIG.out; omega, rfl, by go_num, ?_, HB7.out.drew⟩
              rw [turn_bytes S I at_ out ka ke HKA.out HKE.out, ← HST.out]
      · have el : decide ((i : Int) < (k : Int)) = false := by simp; omega
        have hi3 : i = k := by have := HIG.out; omega
        subst hi3
        go_wp2_with fail
        go_meet
        exact ⟨S, rfl, by rw [HS.out, List.take_of_length_le (by rw [HKL.out]; exact Nat.le_refl _)], HBR.out⟩
  case rest =>
    obtain ⟨S, rfl, hS, hb3⟩ := hcut
    obtain ⟨w3, rfl⟩ : ∃ x, x = wc := ⟨_, rfl⟩
    have HBw3 := Lib.hid hb3
    clear hb3 hS
    by_cases hbig : 1048576 < S.size
    · have d1 : decide ((1048576 : Int) < (S.size : Int)) = true := by simp; omega
      have d2 : decide (1048576 < S.size) = true := by simp; omega
      go_wp2_with fail
      go_ret
      exact ⟨rfl, HB.out.trans (HBw3.out.mono HB.out.size)⟩
    · have d1 : decide ((1048576 : Int) < (S.size : Int)) = false := by simp; omega
      have d2 : decide (1048576 < S.size) = false := by simp; omega
      have HSZ : Hid (S.size ≤ 1048576) := Lib.hid (by omega)
      have HE3 := Lib.hid (HE.out.low HC.out HBw3.out)
      have HDE := Lib.hid (decode_calls S (by omega) w3 HE3.out.nib)
      obtain ⟨r, hr⟩ : ∃ r, decM S.data.toList = r := ⟨_, rfl⟩
      have HR := Lib.hid hr
      rw [hr] at HDE
      obtain ⟨mm, kk⟩ := r
      dsimp only at HDE
      clear hr hbig
      go_wp2_with fail
      refine HDE.out.mono ?_
      rintro e w7 ⟨v7, rfl, hown7, hb7⟩
      obtain ⟨A7, c7, rfl, _, _, _⟩ := Infs.of_own (l := mm.blocks) hown7 rfl
      have HOWN7 := Lib.hid hown7
      have HBw7 := Lib.hid (HBw3.out.trans (hb7.mono HBw3.out.size))
      obtain ⟨nn, hnn⟩ : ∃ n, mm.blocks.length = n := ⟨_, rfl⟩
      have HNN := Lib.hid hnn
      rw [hnn] at HOWN7 ⊢
      clear hown7 hb7 d1 d2 hnn
      unfold manV
      go_upto_region 14 with fail
      obtain ⟨g7, hg7⟩ : ∃ x, w7.heap.size = x := ⟨_, rfl⟩
      obtain ⟨w8, hw8⟩ : ∃ x, w7.alloc (.cells (manV mm (.slice A7 nn c7)) 25) = x := ⟨_, rfl⟩
      have hb8 : Below w7.heap.size w7 w8 := by rw [← hw8]; exact (Below.refl _ _).alloc (Nat.le_refl _) _
      have HK8 : Hid (Blk w8 g7 25 (manV mm (.slice A7 nn c7))) := Lib.hid (by rw [← hw8, ← hg7]; exact Blk.new _ _ _)
      have HOWN8 := Lib.hid (ownsRow.same HOWN7.out fun k hk => hb8.block k (World.ownsRow.lt HOWN7.out k hk).2)
      have HBw8 := Lib.hid (HBw7.out.trans (hb8.mono HBw7.out.size))
      have hw9 := hw8
      unfold manV at hw9
      rw [hw9, hg7]
      clear hw8 hw9 hg7 hb8
      go_wp2_with fail
      refine (Dk.made 67108864 (by decide) (by decide) w8 (HE.out.low HC.out HBw8.out).hb).mono ?_
      rintro e w9 ⟨p, R, rfl, hd9, hb9, hz9⟩
      have HBw9 := Lib.hid (HBw8.out.trans (hb9.mono HBw8.out.size))
      have HE9 := Lib.hid (HE.out.low HC.out HBw9.out)
      have HZ9 := Lib.hid hz9
      have HK9 : Hid (Blk w9 g7 25 (manV mm (.slice A7 nn c7)) ∧ R g7 = 0) := Lib.hid ⟨HK8.out.below hb9 HK8.out.lt, hz9 g7 HK8.out.lt⟩
      have HOWN9 := Lib.hid (ownsRow.same HOWN8.out fun k hk => hb9.block k (World.ownsRow.lt HOWN8.out k hk).2)
      have HCR := Lib.hid (hd9.create (by decide) HE9.out.hb HE9.out.e.f ⟨#[109, 97, 110, 105, 102, 101, 115, 116]⟩ (by decide))
      have hcr : createD (newD 67108864) (⟨#[109, 97, 110, 105, 102, 101, 115, 116]⟩ : ByteArray).data.toList = (0, oneD0) := one_create
      rw [hcr] at HCR
      clear hd9 hb9 hz9 hcr
      go_wp2_with fail
      refine HCR.out.mono ?_
      rintro e w10 ⟨v10, R10, rfl, hv10, hd10, ho10⟩
      obtain rfl : v10 = .nilIface := hv10
      have HE10 := Lib.hid (HE9.out.below HC.out (ho10.below HE9.out.hb (fun k hk => HZ9.out k (by have := (HE.out.low HC.out HBw8.out).hb; omega))))
      have HD10 := Lib.hid hd10
      have HO10 := Lib.hid ho10
      clear hd10 ho10
      obtain ⟨w11, hw11⟩ : ∃ x, w10.alloc (.cells #[.string S] 9) = x := ⟨_, rfl⟩
      have hb11 : Below w10.heap.size w10 w11 := by rw [← hw11]; exact (Below.refl _ _).alloc (Nat.le_refl _) _
      have HAP := Lib.hid ((HD10.out.below hb11).append (by decide) (HE10.out.low HC.out hb11).hb (HE10.out.low HC.out hb11).e.f ⟨#[109, 97, 110, 105, 102, 101, 115, 116]⟩ (by decide) _ _ (strs_one (by rw [← hw11]; exact Blk.new w10 9 #[.string S])) (by rw [text_size3]; have := HSZ.out; omega))
      have hap : appendD oneD0 (⟨#[109, 97, 110, 105, 102, 101, 115, 116]⟩ : ByteArray).data.toList S.data.toList = (0, oneD S.data.toList) := one_append _ (by rw [text_size3]; have := HSZ.out; omega)
      rw [hap] at HAP
      have HO11 : Hid (Out R R10 w9 w11) := Lib.hid (HO10.out.trans (Out.of_below hb11))
      have HW11 := Lib.hid hw11
      clear hap hb11 hw11
      go_wp2_with fail
      have hw11 := HW11.out
      first | rw [hw11] | skip
      refine HAP.out.mono ?_
      rintro e w12 ⟨v12, R12, rfl, hv12, hd12, ho12⟩
      obtain rfl : v12 = .nilIface := hv12
      have HD12 := Lib.hid hd12
      have HO12 : Hid (Out R R12 w9 w12) := Lib.hid (HO11.out.trans ho12)
      have HBw12 := Lib.hid (HBw9.out.trans ((HO12.out.below HBw9.out.size (fun k hk => HZ9.out k (by have := HBw8.out.size; omega)))))
      have HE12 := Lib.hid (HE.out.low HC.out HBw12.out)
      have HK12 : Hid (Blk w12 g7 25 (manV mm (.slice A7 nn c7)) ∧ R12 g7 = 0) := Lib.hid ⟨HO12.out.blk HK9.out.1 HK9.out.2, HO12.out.old _ HK9.out.1.lt HK9.out.2⟩
      have HOWN12 := Lib.hid (ownsRow.same HOWN9.out fun k hk => HO12.out.block k (by have := (World.ownsRow.lt HOWN9.out k hk).2; exact this) (HZ9.out k (World.ownsRow.lt HOWN8.out k hk).2))
      have HCU := Lib.hid (current_calls S.data.toList (by rw [text_size3]; have := HSZ.out; omega) w12 HD12.out (by rw [text_size3]; have := HSZ.out; omega) HC.out HE12.out (one_all _))
      clear hd12 ho12 hw11
      go_wp2_with fail
      refine HCU.out.mono ?_
      rintro e w13 ⟨v13, u13, R13, h1, hown13, hv13, hu13, hd13, ho13⟩
      subst h1
      rw [HR.out] at hown13 hu13 ⊢
      dsimp only at hown13 hu13 ⊢
      obtain ⟨A13, c13, rfl, _, _, _⟩ := Infs.of_own (l := mm.blocks) hown13 rfl
      have HBw13 := Lib.hid (HBw12.out.trans (ho13.below HBw12.out.size (fun k hk => HO12.out.old k (by have := HBw9.out.size; omega) (HZ9.out k (by have := HBw8.out.size; omega)))))
      have HK13 : Hid (Blk w13 g7 25 (manV mm (.slice A7 nn c7))) := Lib.hid (ho13.blk HK12.out.1 HK12.out.2)
      have HOWN13 := Lib.hid (ownsRow.same HOWN12.out fun k hk => ho13.block k (World.ownsRow.lt HOWN12.out k hk).2 (HO12.out.old k (World.ownsRow.lt HOWN9.out k hk).2 (HZ9.out k (World.ownsRow.lt HOWN8.out k hk).2)))
      have HOWNB := Lib.hid hown13
      have HU13 := Lib.hid hu13
      rw [HNN.out] at HOWNB ⊢
      clear hown13 hv13 hu13 hd13 ho13
      cases kk with
      | zero =>
        obtain rfl : u13 = .nilIface := HU13.out
        have hg := decM_good (s := S.data.toList) (by rw [HR.out])
        have hs := decM_small (s := S.data.toList) (by rw [HR.out])
        rw [HR.out] at hg hs
        obtain ⟨hg1, hg2⟩ := hg
        dsimp only at hg1 hg2 hs
        have HFIT := Lib.hid hg1
        have hss : (⟨(encM mm).toArray⟩ : ByteArray) = S := by rw [hg2]
        have HSS := Lib.hid hss
        have HSL := Lib.hid hs
        have HLEN : Hid (mm.blocks.length ≤ 3518437208780) := Lib.hid (by have := fit_len hg1; omega)
        clear hg1 hg2 hs hss
        unfold manV
        go_upto_region 18 with fail
        obtain ⟨g13, hg13⟩ : ∃ x, w13.heap.size = x := ⟨_, rfl⟩
        obtain ⟨w14, hw14⟩ : ∃ x, w13.alloc (.cells (manV mm (.slice A13 nn c13)) 25) = x := ⟨_, rfl⟩
        have hb14 : Below w13.heap.size w13 w14 := by rw [← hw14]; exact (Below.refl _ _).alloc (Nat.le_refl _) _
        have HK14 : Hid (Blk w14 g7 25 (manV mm (.slice A7 nn c7)) ∧ Blk w14 g13 25 (manV mm (.slice A13 nn c13))) := Lib.hid ⟨HK13.out.below hb14 HK13.out.lt, by rw [← hw14, ← hg13]; exact Blk.new _ _ _⟩
        have HBw14 := Lib.hid (HBw13.out.trans (hb14.mono HBw13.out.size))
        have HE14 := Lib.hid (HE.out.low HC.out HBw14.out)
        have HI7 : Hid (Infs w14 A7 nn mm.blocks) := Lib.hid (by
          have h0 := ownsRow.same HOWN13.out fun k hk => hb14.block k (World.ownsRow.lt HOWN13.out k hk).2
          obtain ⟨A'', c'', e1, h1, _, _⟩ := Infs.of_own (l := mm.blocks) h0 HNN.out
          injection e1 with e1 e2 e3
          subst e1
          exact h1)
        have HI13 : Hid (Infs w14 A13 nn mm.blocks) := Lib.hid (by
          have h0 := ownsRow.same HOWNB.out fun k hk => hb14.block k (World.ownsRow.lt HOWNB.out k hk).2
          obtain ⟨A'', c'', e1, h1, _, _⟩ := Infs.of_own (l := mm.blocks) h0 HNN.out
          injection e1 with e1 e2 e3
          subst e1
          exact h1)
        have hw15 := hw14
        unfold manV at hw15
        rw [hw15, hg13]
        clear hw14 hw15 hg13 hb14
        have HEN2 := Lib.hid (enc_yes mm A7 c7 w14 (by rw [HNN.out]; exact HI7.out) HLEN.out HSL.out HE14.out.nib HFIT.out)
        rw [HSS.out, HNN.out] at HEN2
        have y0 : w14.cell? ⟨g7, 0, none⟩ = some (.int .i64 mm.w0) := HK14.out.1.cell 0
        have y1 : w14.cell? ⟨g7, 1, none⟩ = some (.int .i64 mm.w1) := HK14.out.1.cell 1
        have y2 : w14.cell? ⟨g7, 2, none⟩ = some (.int .i64 mm.w2) := HK14.out.1.cell 2
        have y3 : w14.cell? ⟨g7, 3, none⟩ = some (.int .i64 mm.next) := HK14.out.1.cell 3
        have y4 : w14.cell? ⟨g7, 4, none⟩ = some (.int .i64 mm.log) := HK14.out.1.cell 4
        have y5 : w14.cell? ⟨g7, 5, none⟩ = some ((.slice A7 nn c7)) := HK14.out.1.cell 5
        have y6 : w14.cell? ⟨g7, 6, none⟩ = some (.int .i64 mm.cut) := HK14.out.1.cell 6
        have y7 : w14.cell? ⟨g7, 7, none⟩ = some (.int .i64 mm.r0) := HK14.out.1.cell 7
        have y8 : w14.cell? ⟨g7, 8, none⟩ = some (.int .i64 mm.r1) := HK14.out.1.cell 8
        have y9 : w14.cell? ⟨g7, 9, none⟩ = some (.int .i64 mm.r2) := HK14.out.1.cell 9
        have y10 : w14.cell? ⟨g7, 10, none⟩ = some (.int .i64 mm.l0) := HK14.out.1.cell 10
        have y11 : w14.cell? ⟨g7, 11, none⟩ = some (.int .i64 mm.l1) := HK14.out.1.cell 11
        have y12 : w14.cell? ⟨g7, 12, none⟩ = some (.int .i64 mm.l2) := HK14.out.1.cell 12
        go_wp2_with fail
        refine HEN2.out.mono ?_
        rintro e w15 ⟨rfl, hb15⟩
        have HBw15 := Lib.hid (HBw14.out.trans (hb15.mono HBw14.out.size))
        have HK15 := Lib.hid (⟨HK14.out.1.below hb15 HK14.out.1.lt, HK14.out.2.below hb15 HK14.out.2.lt⟩ : _ ∧ _)
        have HAL := Lib.hid (lalike20_same mm A7 A13 c7 c13 w15 (by rw [HNN.out]; exact HI7.out.below hb15) (by rw [HNN.out]; exact HI13.out.below hb15) HLEN.out)
        rw [HNN.out] at HAL
        have HRF : Hid (∀ w' : World, Below w15.heap.size w15 w' → Calls Tryz.prog 15 #[.agg (manV mm (.slice A7 nn c7))] w' fun e w2 => ∃ u, e = .returned u ∧ ∃ A' c', u = .agg (manV mm (.slice A' nn c')) ∧ Infs w2 A' nn mm.blocks ∧ Below w'.heap.size w' w2) := Lib.hid fun w' h => by
          have h1 := ref20_opened mm A7 c7 w' (by rw [HNN.out]; exact (HI7.out.below hb15).below h) HLEN.out
          rw [HNN.out] at h1
          exact h1
        have HFT : Hid (∀ (w' : World) A' c', Infs w' A' nn mm.blocks → Calls Tryz.prog 14 #[.agg (manV mm (.slice A' nn c'))] w' fun e w2 => e = .returned (.bool true) ∧ Below w'.heap.size w' w2) := Lib.hid fun w' A' c' h => by
          have h1 := fit20_calls mm A' c' w' (by rw [HNN.out]; exact h) HLEN.out
          rw [HNN.out, HFIT.out] at h1
          exact h1
        clear y0 y1 y2 y3 y4 y5 y6 y7 y8 y9 y10 y11 y12
        clear hb15
        have y0 : w15.cell? ⟨g7, 0, none⟩ = some (.int .i64 mm.w0) := HK15.out.1.cell 0
        have y1 : w15.cell? ⟨g7, 1, none⟩ = some (.int .i64 mm.w1) := HK15.out.1.cell 1
        have y2 : w15.cell? ⟨g7, 2, none⟩ = some (.int .i64 mm.w2) := HK15.out.1.cell 2
        have y3 : w15.cell? ⟨g7, 3, none⟩ = some (.int .i64 mm.next) := HK15.out.1.cell 3
        have y4 : w15.cell? ⟨g7, 4, none⟩ = some (.int .i64 mm.log) := HK15.out.1.cell 4
        have y5 : w15.cell? ⟨g7, 5, none⟩ = some ((.slice A7 nn c7)) := HK15.out.1.cell 5
        have y6 : w15.cell? ⟨g7, 6, none⟩ = some (.int .i64 mm.cut) := HK15.out.1.cell 6
        have y7 : w15.cell? ⟨g7, 7, none⟩ = some (.int .i64 mm.r0) := HK15.out.1.cell 7
        have y8 : w15.cell? ⟨g7, 8, none⟩ = some (.int .i64 mm.r1) := HK15.out.1.cell 8
        have y9 : w15.cell? ⟨g7, 9, none⟩ = some (.int .i64 mm.r2) := HK15.out.1.cell 9
        have y10 : w15.cell? ⟨g7, 10, none⟩ = some (.int .i64 mm.l0) := HK15.out.1.cell 10
        have y11 : w15.cell? ⟨g7, 11, none⟩ = some (.int .i64 mm.l1) := HK15.out.1.cell 11
        have y12 : w15.cell? ⟨g7, 12, none⟩ = some (.int .i64 mm.l2) := HK15.out.1.cell 12
        have v0 : w15.cell? ⟨g13, 0, none⟩ = some (.int .i64 mm.w0) := HK15.out.2.cell 0
        have v1 : w15.cell? ⟨g13, 1, none⟩ = some (.int .i64 mm.w1) := HK15.out.2.cell 1
        have v2 : w15.cell? ⟨g13, 2, none⟩ = some (.int .i64 mm.w2) := HK15.out.2.cell 2
        have v3 : w15.cell? ⟨g13, 3, none⟩ = some (.int .i64 mm.next) := HK15.out.2.cell 3
        have v4 : w15.cell? ⟨g13, 4, none⟩ = some (.int .i64 mm.log) := HK15.out.2.cell 4
        have v5 : w15.cell? ⟨g13, 5, none⟩ = some ((.slice A13 nn c13)) := HK15.out.2.cell 5
        have v6 : w15.cell? ⟨g13, 6, none⟩ = some (.int .i64 mm.cut) := HK15.out.2.cell 6
        have v7 : w15.cell? ⟨g13, 7, none⟩ = some (.int .i64 mm.r0) := HK15.out.2.cell 7
        have v8 : w15.cell? ⟨g13, 8, none⟩ = some (.int .i64 mm.r1) := HK15.out.2.cell 8
        have v9 : w15.cell? ⟨g13, 9, none⟩ = some (.int .i64 mm.r2) := HK15.out.2.cell 9
        have v10 : w15.cell? ⟨g13, 10, none⟩ = some (.int .i64 mm.l0) := HK15.out.2.cell 10
        have v11 : w15.cell? ⟨g13, 11, none⟩ = some (.int .i64 mm.l1) := HK15.out.2.cell 11
        have v12 : w15.cell? ⟨g13, 12, none⟩ = some (.int .i64 mm.l2) := HK15.out.2.cell 12
        go_wp2_with fail
        refine HAL.out.mono ?_
        rintro e w16 ⟨rfl, hb16⟩
        have HBw16 := Lib.hid (HBw15.out.trans (hb16.mono HBw15.out.size))
        have HK16 : Hid (Blk w16 g7 25 (manV mm (.slice A7 nn c7))) := Lib.hid (HK15.out.1.below hb16 HK15.out.1.lt)
        have HRF2 := Lib.hid (HRF.out w16 hb16)
        clear y0 y1 y2 y3 y4 y5 y6 y7 y8 y9 y10 y11 y12
        clear v0 v1 v2 v3 v4 v5 v6 v7 v8 v9 v10 v11 v12
        clear hb16
        have y0 : w16.cell? ⟨g7, 0, none⟩ = some (.int .i64 mm.w0) := HK16.out.cell 0
        have y1 : w16.cell? ⟨g7, 1, none⟩ = some (.int .i64 mm.w1) := HK16.out.cell 1
        have y2 : w16.cell? ⟨g7, 2, none⟩ = some (.int .i64 mm.w2) := HK16.out.cell 2
        have y3 : w16.cell? ⟨g7, 3, none⟩ = some (.int .i64 mm.next) := HK16.out.cell 3
        have y4 : w16.cell? ⟨g7, 4, none⟩ = some (.int .i64 mm.log) := HK16.out.cell 4
        have y5 : w16.cell? ⟨g7, 5, none⟩ = some ((.slice A7 nn c7)) := HK16.out.cell 5
        have y6 : w16.cell? ⟨g7, 6, none⟩ = some (.int .i64 mm.cut) := HK16.out.cell 6
        have y7 : w16.cell? ⟨g7, 7, none⟩ = some (.int .i64 mm.r0) := HK16.out.cell 7
        have y8 : w16.cell? ⟨g7, 8, none⟩ = some (.int .i64 mm.r1) := HK16.out.cell 8
        have y9 : w16.cell? ⟨g7, 9, none⟩ = some (.int .i64 mm.r2) := HK16.out.cell 9
        have y10 : w16.cell? ⟨g7, 10, none⟩ = some (.int .i64 mm.l0) := HK16.out.cell 10
        have y11 : w16.cell? ⟨g7, 11, none⟩ = some (.int .i64 mm.l1) := HK16.out.cell 11
        have y12 : w16.cell? ⟨g7, 12, none⟩ = some (.int .i64 mm.l2) := HK16.out.cell 12
        go_wp2_with fail
        refine HRF2.out.mono ?_
        rintro e w17 ⟨u17, rfl, A17, c17, rfl, hi17, hb17⟩
        have HBw17 := Lib.hid (HBw16.out.trans (hb17.mono HBw16.out.size))
        have HFT2 := Lib.hid (HFT.out w17 A17 c17 hi17)
        clear y0 y1 y2 y3 y4 y5 y6 y7 y8 y9 y10 y11 y12
        clear hb17 hi17
        go_wp2_with fail
        refine HFT2.out.mono ?_
        rintro e w18 ⟨rfl, hb18⟩
        have HBw18 := Lib.hid (HBw17.out.trans (hb18.mono HBw17.out.size))
        clear hb18
        go_wp2_with fail
        go_ret
        exact ⟨rfl, HB.out.trans (HBw18.out.mono HB.out.size)⟩
      | succ k2 =>
        have hbad := decM_bad (s := S.data.toList) (by rw [HR.out]; simp)
        rw [HR.out] at hbad
        obtain ⟨hz, hk3⟩ := hbad
        dsimp only at hz hk3
        subst hz
        obtain rfl : nn = 0 := by rw [← HNN.out]; rfl
        obtain ⟨q, rfl, hq1, hq2⟩ : ∃ q, u13 = .iface 51 (.pointer (some ⟨q, 0, none⟩)) ∧ Blk w13 q 54 #[.string ⟨#[109, 97, 110, 105, 102, 101, 115, 116]⟩, .int .i64 ((k2 + 1 : Nat) : Int)] ∧ _ := HU13.out
        obtain ⟨E, hE⟩ : ∃ E : Int, ((k2 + 1 : Nat) : Int) = E := ⟨_, rfl⟩
        have HQ13 := Lib.hid hq1
        have HK3 : Hid (E = 20 ∨ E = 22 ∨ E = 150) := Lib.hid (by omega)
        rw [hE] at HQ13 ⊢
        have z1 : E ≠ 0 := by omega
        have z2 : (E == 0) = false := by simp; omega
        have z3 : (E != 0) = true := by simp; omega
        have z4 : decide (E = 0) = false := by simp; omega
        clear hE hq1 hq2 hk3
        unfold manV
        go_upto_region 18 with fail
        obtain ⟨g13, hg13⟩ : ∃ x, w13.heap.size = x := ⟨_, rfl⟩
        obtain ⟨w14, hw14⟩ : ∃ x, w13.alloc (.cells (manV Man.zero (.slice A13 0 c13)) 25) = x := ⟨_, rfl⟩
        have hb14 : Below w13.heap.size w13 w14 := by rw [← hw14]; exact (Below.refl _ _).alloc (Nat.le_refl _) _
        have HK14 : Hid (Blk w14 g7 25 (manV Man.zero (.slice A7 0 c7)) ∧ Blk w14 g13 25 (manV Man.zero (.slice A13 0 c13))) := Lib.hid ⟨HK13.out.below hb14 HK13.out.lt, by rw [← hw14, ← hg13]; exact Blk.new _ _ _⟩
        have HBw14 := Lib.hid (HBw13.out.trans (hb14.mono HBw13.out.size))
        have HE14 := Lib.hid (HE.out.low HC.out HBw14.out)
        have HI7 : Hid (Infs w14 A7 0 Man.zero.blocks) := Lib.hid (by
          have h0 := ownsRow.same HOWN13.out fun k hk => hb14.block k (World.ownsRow.lt HOWN13.out k hk).2
          obtain ⟨A'', c'', e1, h1, _, _⟩ := Infs.of_own (l := Man.zero.blocks) h0 rfl
          injection e1 with e1 e2 e3
          subst e1
          exact h1)
        have HI13 : Hid (Infs w14 A13 0 Man.zero.blocks) := Lib.hid (by
          have h0 := ownsRow.same HOWNB.out fun k hk => hb14.block k (World.ownsRow.lt HOWNB.out k hk).2
          obtain ⟨A'', c'', e1, h1, _, _⟩ := Infs.of_own (l := Man.zero.blocks) h0 rfl
          injection e1 with e1 e2 e3
          subst e1
          exact h1)
        have hw15 := hw14
        unfold manV at hw15
        rw [hw15, hg13]
        clear hw14 hw15 hg13
        have HQ14 := Lib.hid (HQ13.out.below hb14 HQ13.out.lt)
        clear hb14
        have HALZ : Hid (∀ (w' : World) A1 c1, Infs w' A1 0 Man.zero.blocks → Calls Tryz.prog 18 #[.agg #[.int .i64 0, .int .i64 0, .int .i64 0, .int .i64 0, .int .i64 0, .slice A1 0 c1, .int .i64 0, .int .i64 0, .int .i64 0, .int .i64 0, .int .i64 0, .int .i64 0, .int .i64 0], .agg #[.int .i64 0, .int .i64 0, .int .i64 0, .int .i64 0, .int .i64 0, .slice none 0 0, .int .i64 0, .int .i64 0, .int .i64 0, .int .i64 0, .int .i64 0, .int .i64 0, .int .i64 0]] w' fun e w2 => e = .returned (.bool true) ∧ Below w'.heap.size w' w2) := Lib.hid fun w' A1 c1 h => lalike20_same .zero A1 none c1 0 w' h ⟨rfl, fun h0 => absurd h0 (by decide)⟩ (by decide)
        have HA1 := Lib.hid (HALZ.out w14 A7 c7 HI7.out)
        have hta := run_assertedC (.pointer (some ⟨q, 0, none⟩))
        have y0 : w14.cell? ⟨g7, 0, none⟩ = some (.int .i64 0) := HK14.out.1.cell 0
        have y1 : w14.cell? ⟨g7, 1, none⟩ = some (.int .i64 0) := HK14.out.1.cell 1
        have y2 : w14.cell? ⟨g7, 2, none⟩ = some (.int .i64 0) := HK14.out.1.cell 2
        have y3 : w14.cell? ⟨g7, 3, none⟩ = some (.int .i64 0) := HK14.out.1.cell 3
        have y4 : w14.cell? ⟨g7, 4, none⟩ = some (.int .i64 0) := HK14.out.1.cell 4
        have y5 : w14.cell? ⟨g7, 5, none⟩ = some (.slice A7 0 c7) := HK14.out.1.cell 5
        have y6 : w14.cell? ⟨g7, 6, none⟩ = some (.int .i64 0) := HK14.out.1.cell 6
        have y7 : w14.cell? ⟨g7, 7, none⟩ = some (.int .i64 0) := HK14.out.1.cell 7
        have y8 : w14.cell? ⟨g7, 8, none⟩ = some (.int .i64 0) := HK14.out.1.cell 8
        have y9 : w14.cell? ⟨g7, 9, none⟩ = some (.int .i64 0) := HK14.out.1.cell 9
        have y10 : w14.cell? ⟨g7, 10, none⟩ = some (.int .i64 0) := HK14.out.1.cell 10
        have y11 : w14.cell? ⟨g7, 11, none⟩ = some (.int .i64 0) := HK14.out.1.cell 11
        have y12 : w14.cell? ⟨g7, 12, none⟩ = some (.int .i64 0) := HK14.out.1.cell 12
        go_wp2_with fail
        refine HA1.out.mono ?_
        rintro e w15 ⟨rfl, hb15⟩
        have HBw15 := Lib.hid (HBw14.out.trans (hb15.mono HBw14.out.size))
        have HK15 : Hid (Blk w15 g13 25 (manV Man.zero (.slice A13 0 c13))) := Lib.hid (HK14.out.2.below hb15 HK14.out.2.lt)
        have HA2 := Lib.hid (HALZ.out w15 A13 c13 (HI13.out.below hb15))
        have HQ15 := Lib.hid (HQ14.out.below hb15 HQ14.out.lt)
        clear y0 y1 y2 y3 y4 y5 y6 y7 y8 y9 y10 y11 y12
        clear hb15
        have v0 : w15.cell? ⟨g13, 0, none⟩ = some (.int .i64 0) := HK15.out.cell 0
        have v1 : w15.cell? ⟨g13, 1, none⟩ = some (.int .i64 0) := HK15.out.cell 1
        have v2 : w15.cell? ⟨g13, 2, none⟩ = some (.int .i64 0) := HK15.out.cell 2
        have v3 : w15.cell? ⟨g13, 3, none⟩ = some (.int .i64 0) := HK15.out.cell 3
        have v4 : w15.cell? ⟨g13, 4, none⟩ = some (.int .i64 0) := HK15.out.cell 4
        have v5 : w15.cell? ⟨g13, 5, none⟩ = some (.slice A13 0 c13) := HK15.out.cell 5
        have v6 : w15.cell? ⟨g13, 6, none⟩ = some (.int .i64 0) := HK15.out.cell 6
        have v7 : w15.cell? ⟨g13, 7, none⟩ = some (.int .i64 0) := HK15.out.cell 7
        have v8 : w15.cell? ⟨g13, 8, none⟩ = some (.int .i64 0) := HK15.out.cell 8
        have v9 : w15.cell? ⟨g13, 9, none⟩ = some (.int .i64 0) := HK15.out.cell 9
        have v10 : w15.cell? ⟨g13, 10, none⟩ = some (.int .i64 0) := HK15.out.cell 10
        have v11 : w15.cell? ⟨g13, 11, none⟩ = some (.int .i64 0) := HK15.out.cell 11
        have v12 : w15.cell? ⟨g13, 12, none⟩ = some (.int .i64 0) := HK15.out.cell 12
        go_wp2_with fail
        refine HA2.out.mono ?_
        rintro e w16 ⟨rfl, hb16⟩
        have HBw16 := Lib.hid (HBw15.out.trans (hb16.mono HBw15.out.size))
        have HQ16 := Lib.hid (HQ15.out.below hb16 HQ15.out.lt)
        have kq0 := HQ16.out.cell 0
        have kq1 := HQ16.out.cell 1
        clear v0 v1 v2 v3 v4 v5 v6 v7 v8 v9 v10 v11 v12
        clear hb16
        rcases HK3.out with rfl | rfl | rfl
        all_goals
          go_wp2_with fail
          go_ret
          exact ⟨rfl, HB.out.trans (HBw16.out.mono HB.out.size)⟩
end
end Go.Proofs.YtfpgbhimgfdddaaGreatDoor
