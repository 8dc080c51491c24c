/- The walks of layer 16 (wal): recover of a directory without segments; recover that meets a spoilt segment behind which others stand. -/
import Derived.Test.YtfpgbhimgfdddaaGreatDoorWalWalksE
set_option linter.unusedVariables false
set_option linter.unusedSimpArgs false
namespace Go.Proofs.YtfpgbhimgfdddaaGreatDoor
open Go.RowKit Go.Shelf Go.Sort
attribute [local go_sem ↓] Go.wp_at_zero Go.wp_at_succ
attribute [local go_sem] Later.cell Later.frozen

section
variable {B0 M p g : Nat} {a : Nat → Addr} {R R' : Nat → Nat} {d : Ds} {w w' : World} {D : ByteArray} {size last used : Int}
set_option maxRecDepth 100000 in
set_option maxHeartbeats 4000000 in
theorem recover_new (hDs : D.size ≤ 1000) (hDn : nameB D.data.toList = true) (from_ : Nat) (hf : from_ ≤ 99999999) (w : World) (hA : WAt B0 a M p g R D size 0 used d w) (hM : M + 2 ≤ 536870912) (hC : SCon B0 a)
    (hl : listD d D.data.toList = ([], 0)) (hcr : (createD d (wP D.data.toList (from_ : Int))).1 = 0) (hsn : (syncNamesD (createD d (wP D.data.toList (from_ : Int))).2).1 = 0) :
    Calls Tryz.prog 88 #[.pointer (some ⟨g, 0, none⟩), .int .i64 (from_ : Int)] w fun e w' => e = .returned (.tuple #[.slice none 0 0, .nilIface]) ∧
      ∃ R', WAt B0 a (M + 2) p g R' D size (from_ : Int) 0 (beginD D.data.toList d (from_ : Int)) w' ∧ OutG g R R' w w' := by
  have HSEG := Lib.hid (segments_calls (D := D) hDs hDn w hA (by omega) hC [] [] hl rfl (by simp) (by simp))
  have HA := Lib.hid hA
  have HC := Lib.hid hC
  have HBG : Hid (∀ w', Below w.heap.size w w' → Calls Tryz.prog 94 #[.pointer (some ⟨g, 0, none⟩), .int .i64 (from_ : Int)] w' fun e w2 => e = .returned .nilIface ∧ ∃ R', WAt B0 a (M + 2) p g R' D size (from_ : Int) 0 (beginD D.data.toList d (from_ : Int)) w2 ∧ OutG g R R' w' w2) := Lib.hid fun w' h =>
    begin_calls from_ hf hDs w' (HA.out.below HC.out h) hM HC.out hcr hsn
  obtain ⟨fz, hfz⟩ : ∃ z : Int, (from_ : Int) = z := ⟨_, rfl⟩
  rw [hfz] at HBG ⊢
  clear hA hC hl hDn hDs hM hcr hsn hfz hf
  go_enter Tryz.func88, Tryz.ntmps88
  go_wp2_with fail
  refine HSEG.out.mono ?_
  rintro e w2 ⟨X, c, rfl, hx2, hxf, hb2⟩
  have HA2 := Lib.hid (HA.out.below HC.out hb2)
  have HB2 := Lib.hid hb2
  have HBG2 := Lib.hid (HBG.out w2 hb2)
  have c3 := HA2.out.lg.c3
  have elz : (([] : List Nat).length) = 0 := rfl
  clear hx2 hxf hb2
  rw [elz]
  go_wp2_with fail
  go_loopg [27] 0 (fun gh s27 wr => gh = 0 ∧ s27 = .int .i64 0 ∧ w2 = wr)
  case atStart => exact ⟨rfl, rfl, rfl⟩
  case round =>
    obtain ⟨_, rfl, rfl⟩ := hrel
    have el : decide ((0 : Int) < ((0 : Nat) : Int)) = false := by decide
    go_wp2_with fail
    refine HBG2.out.mono ?_
    rintro e w3 ⟨rfl, R', hA3, hog⟩
    have HA3 := Lib.hid hA3
    have HOG := Lib.hid ((OutG.of (Out.of_below HB2.out)).trans hog)
    clear hA3 hog
    go_wp2_with fail
    go_ret2
    exact ⟨rfl, R', HA3.out, HOG.out⟩
set_option maxRecDepth 100000 in
set_option maxHeartbeats 8000000 in
theorem recover_bad (hDs : D.size ≤ 1000) (hDn : nameB D.data.toList = true) (from_ : Int) (w : World) (hA : WAt B0 a M p g R D size last used d w) (hM : M + 2 ≤ 536870912) (hC : SCon B0 a)
    (le : List En) (hl : listD d D.data.toList = (le, 0)) (ns : List Nat) (hns : entSegs le ns) (hr : ∀ n ∈ ns, 1 ≤ n ∧ n ≤ 99999999) (hz : ns.length ≤ 99999999)
    (C : Nat → Txt) (hall : ∀ n ∈ ns, allD d (wP D.data.toList (n : Int)) = (C n, 0)) (hlen : ∀ n ∈ ns, (C n).length ≤ 67108864) (htot : ((ns.flatMap fun n => (rdT (C n)).1).length ≤ 1073741824))
    (hfrom : ∀ n ∈ ns, from_ ≤ (n : Int)) (j nb : Nat) (hj : ns[j]? = some nb) (hj2 : j + 1 < ns.length) (hclean : ∀ i n, i < j → ns[i]? = some n → (rdT (C n)).2.2 = 0) (hbad : (rdT (C nb)).2.2 ≠ 0) :
    Calls Tryz.prog 88 #[.pointer (some ⟨g, 0, none⟩), .int .i64 from_] w fun e w' => ∃ q P R', e = .returned (.tuple #[.slice none 0 0, .iface 51 (.pointer (some ⟨q, 0, none⟩))]) ∧ P.data.toList = wP D.data.toList (nb : Int) ∧
      Blk w' q 54 #[.string P, .int .i64 ((rdT (C nb)).2.2 : Int)] ∧ w.heap.size ≤ q ∧ OutG g R R' w w' := by
  have HSEG := Lib.hid (segments_calls (D := D) hDs hDn w hA (by omega) hC le ns hl hns hr hz)
  have HA := Lib.hid hA
  have HC := Lib.hid hC
  have HJ := Lib.hid (⟨hj, hj2, hbad⟩ : _ ∧ _ ∧ _)
  have HP := Lib.hid (⟨hr, hall, hlen, hfrom⟩ : _ ∧ _ ∧ _ ∧ _)
  have HTOT := Lib.hid htot
  have HCLN := Lib.hid hclean
  have HZ := Lib.hid (⟨hz, hDs, hM⟩ : _ ∧ _ ∧ _)
  clear hA hC hl hns hr hall hlen hfrom hclean htot hj hj2 hbad hDn hz hDs hM
  obtain ⟨ft, hft⟩ : ∃ ft : Nat → List Txt, (fun n => (rdT (C n)).1) = ft := ⟨_, rfl⟩
  have HFT := Lib.hid hft
  have HTOT2 : Hid ((ns.flatMap ft).length ≤ 1073741824) := Lib.hid (by rw [← hft]; exact HTOT.out)
  clear hft
  go_enter Tryz.func88, Tryz.ntmps88
  go_wp2_with fail
  refine HSEG.out.mono ?_
  rintro e w2 ⟨X, c, rfl, hx2, hxf, hb2⟩
  obtain ⟨n, hn⟩ : ∃ n, ns.length = n := ⟨_, rfl⟩
  rw [hn] at hx2 ⊢
  have hnz : n ≤ 99999999 := by have := HZ.out.1; omega
  have HN := Lib.hid hn
  have HX2 := Lib.hid hx2
  have HXF := Lib.hid hxf
  have HB2 := Lib.hid hb2
  have HA2 := Lib.hid (HA.out.below HC.out hb2)
  have HXR : Hid (∀ x, X = some x → R x.block = 0 ∧ x.block ≠ g) := Lib.hid fun x hx => ⟨HA.out.dk.new (hxf x hx), by have := hxf x hx; have := HA.out.lg.lt; omega⟩
  clear hx2 hxf hb2 hn
  go_wp2_with fail
  go_loopg [8, 27] n (fun gh s8 s27 wr => ∃ (i : Nat) (A : Option Addr) (m cc : Nat), i + gh = n ∧ i ≤ j ∧ s27 = .int .i64 (i : Int) ∧ s8 = .slice A m cc ∧ m = ((ns.take i).flatMap ft).length ∧
    wr.ownsRow w2.heap.size 9 1 (.slice A m cc) m (((ns.take i).flatMap ft).map txtV) ∧ OutG g R R w2 wr ∧ (∀ b, (Value.slice A m cc).ownBlock = some b → R b = 0) ∧ ∃ l u, WAt B0 a M p g R D size l u d wr)
  case atStart =>
    exact ⟨0, none, 0, 0, by omega, Nat.zero_le _, rfl, rfl, rfl, World.ownsRow_nil _ _ _ _, OutG.refl _ _ _, (fun b h => by cases h), last, used, HA2.out⟩
  case round =>
    obtain ⟨i, A, m, cc, hig, hij, rfl, rfl, hm, hown, hog, hob, la, us, hAr⟩ := hrel
    have HIG := Lib.hid (⟨hig, hm, hij⟩ : _ ∧ _ ∧ _)
    have HOWN := Lib.hid hown
    have HOG := Lib.hid hog
    have HOB := Lib.hid hob
    have hi : i < n := by have := HJ.out.2.1; have := HN.out; omega
    clear hig hm hown hog hob hij
    have el : decide ((i : Int) < (n : Int)) = true := by simp; omega
    have e0 : (i : Int) < (n : Int) := by omega
    have e1 : (0 : Int) ≤ (i : Int) := by omega
    have HAR := Lib.hid hAr
    have hil : i < ns.length := by rw [HN.out]; exact hi
    obtain ⟨y, hy⟩ : ∃ y, ns[i]? = some y := ⟨_, List.getElem?_eq_getElem hil⟩
    have hym : y ∈ ns := List.mem_of_getElem? hy
    obtain ⟨b, off, rfl, hbl, x0⟩ := (HX2.out.outg HOG.out HXR.out).at_ hy
    unfold natI at x0
    have hyr := HP.out.1 y hym
    have HRD := Lib.hid (read_calls y hyr.2 HZ.out.2.1 wr hAr (by have := HZ.out.2.2; omega) HC.out (C y) (HP.out.2.1 y hym) (by have := HP.out.2.2.1 y hym; omega))
    have d2 : decide ((y : Int) < from_) = false := by have := HP.out.2.2.2 y hym; simp; omega
    have HY := Lib.hid (⟨hy, hym, hyr⟩ : _ ∧ _ ∧ _)
    have HFY : Hid ((rdT (C y)).1 = ft y) := Lib.hid (by rw [← HFT.out])
    have htk : (ns.take (i + 1)).flatMap ft = (ns.take i).flatMap ft ++ ft y := by
      rw [List.take_add_one, hy, List.flatMap_append]
      simp
    have HTK := Lib.hid htk
    have hsz : ((ns.take i).flatMap ft).length + (ft y).length ≤ 1073741824 := by
      have h1 := HTOT2.out
      have h2 : ((ns.take (i + 1)).flatMap ft).length ≤ (ns.flatMap ft).length := by
        conv => rhs; rw [← List.take_append_drop (i + 1) ns, List.flatMap_append, List.length_append]
        exact Nat.le_add_right _ _
      rw [htk, List.length_append] at h2
      omega
    have HSZ := Lib.hid hsz
    have HEI : Hid ((rdT (C y)).2.2 ≠ 0 → i = j ∧ y = nb) := Lib.hid fun h => by
      have h1 : ¬ i < j := fun h2 => h (HCLN.out i y h2 hy)
      have h3 : i = j := by have := HIG.out.2.2; omega
      refine ⟨h3, ?_⟩
      have h4 := HJ.out.1
      rw [← h3, hy] at h4
      exact Option.some.inj h4
    have HEJ : Hid (i = j → (rdT (C y)).2.2 ≠ 0) := Lib.hid fun h => by
      have h4 := HJ.out.1
      rw [← h, hy] at h4
      have h5 := Option.some.inj h4
      rw [h5]
      exact HJ.out.2.2
    obtain ⟨r, hrr⟩ : ∃ r, rdT (C y) = r := ⟨_, rfl⟩
    rw [hrr] at HRD HFY HEI HEJ
    have HRR := Lib.hid hrr
    obtain ⟨r1, at_, ec⟩ := r
    dsimp only at HRD HFY HEI HEJ
    obtain ⟨nr, hnr⟩ : ∃ k, r1.length = k := ⟨_, rfl⟩
    have HNR := Lib.hid hnr
    rw [hnr] at HRD
    obtain ⟨yz, hyz⟩ : ∃ z : Int, (y : Int) = z := ⟨_, rfl⟩
    have HYZ := Lib.hid hyz
    rw [hyz] at HRD x0 d2
    obtain ⟨ez, hez⟩ : ∃ z : Int, (ec : Int) = z := ⟨_, rfl⟩
    have HEZ := Lib.hid hez
    rw [hez] at HRD
    obtain ⟨az, haz⟩ : ∃ z : Int, (at_ : Int) = z := ⟨_, rfl⟩
    have HAZ := Lib.hid haz
    rw [haz] at HRD
    clear hAr hy hym hyr htk hsz hrr hnr hyz hez haz hil
    go_wp2_with fail
    refine HRD.out.mono ?_
    rintro e w3 ⟨Y, cy, rfl, hsy, hy0, hyf, hb3⟩
    have HSY := Lib.hid (⟨hsy, hy0, hyf⟩ : _ ∧ _ ∧ _)
    have HB3 := Lib.hid hb3
    have HA3 := Lib.hid (HAR.out.below HC.out hb3)
    clear hsy hy0 hyf hb3 x0
    by_cases hec : ec = 0
    · have hez0 : ez = 0 := by rw [← HEZ.out, hec]; rfl
      subst hez0
      have hij : i + 1 ≤ j := by
        have h1 := HIG.out.2.2
        have h2 : i ≠ j := fun h => HEJ.out h hec
        omega
      have HIJ := Lib.hid hij
      clear hij
      have hbase := HOG.out.size
      have hs3 := HB3.out.size
      have hown7 : w3.ownsRow w2.heap.size 9 1 (.slice A m cc) m (((ns.take i).flatMap ft).map txtV) := ownsRow.same HOWN.out fun k hk => HB3.out.block k (World.ownsRow.lt HOWN.out k hk).2
      have hml : m = ((ns.take i).flatMap ft).length := HIG.out.2.1
      have hfy := HFY.out
      have hrl : (ft y).length = nr := by rw [← hfy]; exact HNR.out
      have hsz := HSZ.out
      obtain ⟨v8, w8, hrun8, hown8, hgr8, hbl8⟩ := run_textsB (.slice A m cc) m _ w2.heap.size Y nr cy r1 w3 hown7 (by omega) HSY.out.1 HSY.out.2.1 (by omega)
      have e8 : ((ns.take i).flatMap ft).map txtV ++ r1.map txtV = ((ns.take (i + 1)).flatMap ft).map txtV := by rw [HTK.out, List.map_append, hfy]
      rw [e8] at hown8
      obtain ⟨A8, c8, rfl, _, _, _⟩ := Strs.of_own hown8 (by rw [HTK.out, List.length_append, ← hml, hrl])
      have hog7 : OutG g R R w2 w3 := HOG.out.trans (OutG.of (Out.of_below HB3.out))
      have hog8 : OutG g R R w2 w8 := ⟨hgr8.os.trans hog7.os, hgr8.tape.trans hog7.tape, hgr8.output.trans hog7.output, Nat.le_trans hog7.size hgr8.size,
        fun k hk hr hkg => (hgr8.block k (by have := hog7.size; omega) (fun e => by have := (World.ownsRow.lt hown7 k e.symm).1; omega)).trans (hog7.block k hk hr hkg), hog7.old⟩
      have hb8 : Below w2.heap.size w3 w8 := ⟨hgr8.os, hgr8.tape, hgr8.output, hgr8.size, fun k hk => hgr8.block k (by omega) (fun e => by have := (World.ownsRow.lt hown7 k e.symm).1; omega)⟩
      have hB0 : B0 ≤ w2.heap.size := HA2.out.en.hb
      have hgl2 : g < w2.heap.size := HA2.out.lg.lt
      have HA8 : Hid (WAt B0 a M p g R D size la us d w8) := Lib.hid ⟨HA3.out.dk.grow hgr8 HOB.out, Blk.grown HA3.out.lg hgr8 (fun e => by have := (World.ownsRow.lt hown7 g e.symm).1; omega), HA3.out.r0, HA3.out.gb, HA3.out.en.below HC.out (hb8.mono hB0), HA3.out.f6.below (hb8.mono hB0)⟩
      have hob8 : ∀ b, (Value.slice A8 (m + nr) c8).ownBlock = some b → R b = 0 := fun b hb => by
        rcases hbl8 with h | h
        · exact HOB.out b (by rw [← h]; exact hb)
        · rw [h] at hb
          injection hb with hb
          exact HA3.out.dk.new (by omega)
      have HOWN8 := Lib.hid hown8
      have HOG8 := Lib.hid hog8
      have HOB8 := Lib.hid hob8
      have HRUN8 := Lib.hid hrun8
      have HMR : Hid (m + nr = ((ns.take (i + 1)).flatMap ft).length) := Lib.hid (by rw [HTK.out, List.length_append, ← hml, hrl])
      clear hown7 hml hfy hrl hsz hrun8 hown8 hgr8 hbl8 e8 hog7 hog8 hb8 hB0 hgl2 hob8 hbase hs3
      have c3 := HA8.out.lg.c3
      have c4 := HA8.out.lg.c4
      have f3 : w8.frozen? ⟨g, 3, none⟩ = false := Blk.frozen HA8.out.lg 3
      have f4 : w8.frozen? ⟨g, 4, none⟩ = false := Blk.frozen HA8.out.lg 4
      go_wp2_with (at_builtin; refine wpList_append_knownW rfl _ _ 78 rfl rfl rfl HRUN8.out ?_)
      have HA9 := Lib.hid (HA8.out.set HC.out yz az)
      have HOG9 := Lib.hid (HOG8.out.trans ((OutG.set g R w8 3 (.int .i64 yz)).trans (OutG.set g R _ 4 (.int .i64 az))))
      have hgn : (Value.slice A8 (m + nr) c8).ownBlock ≠ some g := fun h => by
        have := (World.ownsRow.lt HOWN8.out g h).1
        have := HA2.out.lg.lt
        omega
      have HOWN9 : Hid (((w8.setCell ⟨g, 3, none⟩ (.int .i64 yz)).setCell ⟨g, 4, none⟩ (.int .i64 az)).ownsRow w2.heap.size 9 1 (.slice A8 (m + nr) c8) (m + nr) (((ns.take (i + 1)).flatMap ft).map txtV)) := Lib.hid (ownsRow.same HOWN8.out fun k hk => by
        have hkg : k ≠ g := fun e => hgn (by rw [← e]; exact hk)
        rw [Below.heap_setCell _ _ _ _ hkg, Below.heap_setCell _ _ _ _ hkg])
      go_roundg (gk - 1)
      case measure => have := HIG.out; omega
      case rel => exact ⟨i + 1, A8, m + nr, c8, by have := HIG.out; omega, HIJ.out, by go_num, rfl, HMR.out, HOWN9.out, HOG9.out, HOB8.out, yz, az, HA9.out⟩
    · obtain ⟨hin, hyl⟩ := HEI.out hec
      have z1 : ez ≠ 0 := by have := HEZ.out; omega
      have z2 : (ez == 0) = false := by simpa using z1
      have z3 : (ez != 0) = true := by simpa using z1
      have z4 : decide (ez = 0) = false := by simpa using z1
      have z5 : decide ((i : Int) < (n : Int) - 1) = true := by have := HJ.out.2.1; have := HN.out; simp; omega
      have z6 : (i : Int) < (n : Int) - 1 := by have := HJ.out.2.1; have := HN.out; omega
      obtain ⟨P, hP⟩ := wP_bytes D (y : Int)
      have hyr := HY.out.2.2
      have HPA := Lib.hid (HA3.out.path HC.out (y : Int) (by omega) (by omega) HZ.out.2.1 P hP)
      rw [HYZ.out] at HPA
      have HPT := Lib.hid (HPA.out ⟨w3, Below.refl _ _⟩)
      dsimp only at HPT
      have HPL : Hid (P.data.toList = wP D.data.toList (nb : Int)) := Lib.hid (by rw [hP, hyl])
      have HEC : Hid (((rdT (C nb)).2.2 : Int) = ez) := Lib.hid (by rw [← hyl, HRR.out]; exact HEZ.out)
      clear hP hyl hin
      go_wp2_with fail
      refine HPT.out.mono ?_
      rintro _ w4 ⟨rfl, hb4⟩
      have HOG4 : Hid (OutG g R R w2 w4) := Lib.hid ((HOG.out.trans (OutG.of (Out.of_below HB3.out))).trans (OutG.of (Out.of_below hb4)))
      clear hb4
      go_wp2_with fail
      go_ret2
      have hb5 : Below w4.heap.size w4 (w4.alloc (.cells #[.string P, .int .i64 ez] 54)) := (Below.refl _ _).alloc (Nat.le_refl _) _
      refine ⟨w4.heap.size, P, R, rfl, HPL.out, ?_, ?_, (OutG.of (Out.of_below HB2.out)).trans (HOG4.out.trans (OutG.of (Out.of_below hb5)))⟩
      · rw [HEC.out]
        exact Blk.new _ _ _
      · have := HB2.out.size
        have := HOG4.out.size
        omega
end
end Go.Proofs.YtfpgbhimgfdddaaGreatDoor
