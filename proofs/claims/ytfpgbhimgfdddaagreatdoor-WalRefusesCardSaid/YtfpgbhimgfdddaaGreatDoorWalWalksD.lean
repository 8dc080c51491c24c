/- The walks of layer 16 (wal): a segment read. -/
import Derived.Test.YtfpgbhimgfdddaaGreatDoorWalWalksC
import Derived.Test.YtfpgbhimgfdddaaGreatDoorWalRead
import Derived.Test.YtfpgbhimgfdddaaGreatDoorFrmWalks
set_option linter.unusedVariables false
set_option linter.unusedSimpArgs false
namespace Go.Proofs.YtfpgbhimgfdddaaGreatDoor
open Go.RowKit Go.Shelf Go.Sort
attribute [local go_sem ↓] Go.wp_at_zero Go.wp_at_succ
attribute [local go_sem] Later.cell Later.frozen

section
variable {B0 M p g : Nat} {a : Nat → Addr} {R R' : Nat → Nat} {d : Ds} {w w' : World} {D : ByteArray} {size last used : Int}
theorem info_strW : (Tryz.prog.info? 9).map (fun i => (i.zero, i.size, i.bytes)) = some (some (.string ⟨#[]⟩), 1, 16) := by kernel_rfl
theorem results_tmp4 {fn : Func} {t u v x : Tmp} (h : fn.results = #[.tmp t, .tmp u, .tmp v, .tmp x]) (tmps : Array Value) (P : Program) (w : World) :
    (results fn tmps).run P w = .ok (.tuple #[tmps.getD t undef, tmps.getD u undef, tmps.getD v undef, tmps.getD x undef]) w := by
  simp [results, h]
theorem Dk.allAt (h : Dk B0 M w R p d) (hM : M ≤ 536870912) (hB : B0 ≤ w.heap.size) (hF : Fails B0 a w) (S : ByteArray) (hS : S.size ≤ 1073741824) (t : Txt) (ht : allD d S.data.toList = (t, 0)) :
    Calls Tryz.prog 59 #[.pointer (some ⟨p, 0, none⟩), .string S] w fun e w' => e = .returned (.tuple #[txtV t, .nilIface]) ∧ Below w.heap.size w w' := by
  obtain ⟨A, hc, rfl⟩ := h.ex
  refine (all3_calls (a := a) S w hc (h.wf.fit hM) hS hB hF).mono ?_
  rintro e w' ⟨v, rfl, h1, h2⟩
  rw [ht] at h1 ⊢
  obtain rfl : v = .nilIface := h1
  exact ⟨rfl, h2⟩
set_option maxRecDepth 100000 in
set_option maxHeartbeats 8000000 in
theorem read_calls (n : Nat) (hn : n ≤ 99999999) (hDs : D.size ≤ 1000) (w : World) (hA : WAt B0 a M p g R D size last used d w) (hM : M ≤ 536870912) (hC : SCon B0 a) (t : Txt) (ht : allD d (wP D.data.toList (n : Int)) = (t, 0)) (hzt : t.length ≤ 1073741824) :
    Calls Tryz.prog 127 #[.pointer (some ⟨g, 0, none⟩), .int .i64 (n : Int)] w fun e w' => ∃ X c, e = .returned (.tuple #[.slice X (rdT t).1.length c, .int .i64 ((rdT t).2.1 : Int), .int .i64 ((rdT t).2.2 : Int), .nilIface]) ∧ Strs w' X (rdT t).1.length (rdT t).1 ∧ (X = none → c = 0) ∧ (∀ x, X = some x → w.heap.size ≤ x.block) ∧ Below w.heap.size w w' := by
  obtain ⟨i0, hi0, hz0, hz1, hz2⟩ := info_parts info_strW
  obtain ⟨P, hP⟩ := wP_bytes D (n : Int)
  have hPs := wP_size hP hDs
  have hc0 := hA.lg.c0
  have hgl := hA.lg.lt
  have HPA := Lib.hid (hA.path hC (n : Int) (by omega) (by omega) hDs P hP)
  obtain ⟨T, hT⟩ : ∃ T : ByteArray, (⟨t.toArray⟩ : ByteArray) = T := ⟨_, rfl⟩
  have hTl : T.data.toList = t := by rw [← hT]
  have hTv : txtV t = .string T := by rw [← hT]; rfl
  have HA := Lib.hid hA
  have HC := Lib.hid hC
  have HAL : Hid (∀ w', Below w.heap.size w w' → Calls Tryz.prog 59 #[.pointer (some ⟨p, 0, none⟩), .string P] w' fun e w'' => e = .returned (.tuple #[.string T, .nilIface]) ∧ Below w'.heap.size w' w'') := Lib.hid fun w' h => by
    rw [← hTv]
    exact ((HA.out.below HC.out h).dk).allAt hM (HA.out.below HC.out h).en.hb (HA.out.below HC.out h).en.e.f P hPs t (by rw [hP]; exact ht)
  subst hTl
  have hTz : T.size ≤ 1073741824 := by rw [← text_size3]; exact hzt
  obtain ⟨nz, hnz⟩ : ∃ z : Int, (n : Int) = z := ⟨_, rfl⟩
  rw [hnz] at HPA ⊢
  have HTZ := Lib.hid hTz
  clear hA hC hP hPs ht hzt hT hTv hnz hn hDs hM hTz
  obtain ⟨r, hr⟩ : ∃ r, rdT T.data.toList = r := ⟨_, rfl⟩
  have HR0 : Hid (readsT T.data.toList T.size 0 = r) := Lib.hid (by rw [← hr]; rfl)
  rw [hr]
  clear hr
  go_enter Tryz.func127, Tryz.ntmps127
  go_upto_region 1 with fail
  have hbd : Below w.heap.size w w.drew := (Below.refl _ _).drew
  have HP0 := Lib.hid (HPA.out ⟨w.drew, hbd⟩)
  dsimp only at HP0
  have HBD := Lib.hid hbd
  have hq0 : LogAt w.drew g p D size last used := HA.out.lg.below hbd
  clear hbd
  go_region_held3 (fun w' => w'.cell? ⟨g, 0, none⟩ = some (.pointer (some ⟨p, 0, none⟩))) (first | exact LogAt.c0 hq0 | exact LogAt.c0 hq1 | exact LogAt.c0 hq2 | go_keep)
    (first
      | (go_at_call 90; refine HP0.out.mono ?_; rintro e w1 ⟨rfl, hb1⟩; have hq1 := LogAt.below hq0 hb1)
      | (go_at_call 59; refine (HAL.out w1 (HBD.out.trans (hb1.mono HBD.out.size))).mono ?_; rintro e w2 ⟨rfl, hb2⟩; have hq2 := LogAt.below hq1 hb2))
  have HB1 := Lib.hid (HBD.out.trans (hb1.mono HBD.out.size))
  clear hc0 hgl hq0 hq1 hq2 hb1
  have HB2 := Lib.hid (HB1.out.trans (hb2.mono HB1.out.size))
  have HA2 := Lib.hid (HA.out.below HC.out HB2.out)
  clear hb2
  go_wp2_with fail
  go_loopg [4, 5, 7] T.size (fun f s4 s5 s7 wr => ∃ (i : Nat) (o : List Txt) (A : Option Addr) (cc : Nat), i ≤ T.size ∧ T.size ≤ i + f ∧ o.length ≤ i ∧ s4 = .slice A o.length cc ∧ s5 = .int .i64 (i : Int) ∧ s7 = .nilIface ∧ wr.ownsRow w2.heap.size 9 1 (.slice A o.length cc) o.length (o.map txtV) ∧ (o ++ (readsT T.data.toList f i).1, (readsT T.data.toList f i).2) = r ∧ Below w2.heap.size w2 wr)
  case atStart => exact ⟨0, [], none, 0, by omega, by omega, Nat.le_refl _, rfl, rfl, rfl, World.ownsRow_nil _ _ _ _, HR0.out, Below.refl _ _⟩
  case round =>
    obtain ⟨i, o, A, cc, h1, h2, h3, rfl, rfl, rfl, hown, hrd, hB⟩ := hrel
    have HI := Lib.hid (⟨h1, h2, h3⟩ : _ ∧ _ ∧ _)
    have HRD := Lib.hid hrd
    have HB := Lib.hid hB
    have HOWN := Lib.hid hown
    obtain ⟨m, hm⟩ : ∃ m, o.length = m := ⟨_, rfl⟩
    have HM := Lib.hid hm
    rw [hm] at HOWN ⊢
    clear hrd hB hown hm h1 h2 h3
    by_cases hi : i < T.size
    · have el : decide ((i : Int) < (T.size : Int)) = true := by simp; omega
      have e0 : (i : Int) < (T.size : Int) := by omega
      obtain ⟨f, rfl⟩ : ∃ f, gk = f + 1 := ⟨gk - 1, by have := HI.out; omega⟩
      have HUN := Lib.hid (unframe_calls T i HI.out.1 (by have := HTZ.out; omega) wr (HA2.out.en.low HC.out HB.out).nib)
      by_cases he : (unframeT T.data.toList i).2.2 = 0
      · have hg := readsT_good (f := f) (show i < T.data.toList.length by rw [text_size3]; exact hi) he
        have hnx := unframe_next he
        rw [text_size3] at hnx
        have HRD2 := Lib.hid HRD.out
        rw [hg] at HRD2
        obtain ⟨u, hu⟩ : ∃ u, unframeT T.data.toList i = u := ⟨_, rfl⟩
        rw [hu] at HUN he hnx HRD2
        obtain ⟨y, nx, ee⟩ := u
        dsimp only at HUN he hnx HRD2
        subst he
        have HNX := Lib.hid hnx
        obtain ⟨Y, hY⟩ : ∃ Y : ByteArray, (⟨y.toArray⟩ : ByteArray) = Y := ⟨_, rfl⟩
        have hYv : txtV y = .string Y := by rw [← hY]; rfl
        rw [hYv] at HUN
        have HY := Lib.hid hYv
        clear hg hu hY hYv hnx
        go_wp2_with fail
        refine HUN.out.mono ?_
        rintro _ w5 ⟨rfl, hb5⟩
        have hown5 := ownsRow.same HOWN.out fun k hk => hb5.block k (World.ownsRow.lt HOWN.out k hk).2
        have hb5' : Below w2.heap.size w2 w5 := HB.out.trans (hb5.mono HB.out.size)
        clear hb5
        go_wp2_with (at_builtin; refine wpList_append_own_at _ rfl _ _ 78 rfl w2.heap.size 9 i0 (.string ⟨#[]⟩) 1 16 Tryz.underlying78 hi0 hz0 hz1 hz2 rfl (by decide) _ _ _ rfl (hown5.alloc _) ⟨w5.heap.size, 0, none⟩ 1 1 [.string Y] rfl rfl ?p1 ?p2 ?p3 ?p4 ?p5 ?_)
        case p1 => exact news_of_blk (l := [.string Y]) (Blk.new w5 _ _)
        case p2 => intro u hu; rw [List.mem_singleton.1 hu]; rfl
        case p3 => unfold maxLen; have := HTZ.out; have := HI.out; have := HM.out; omega
        case p4 => have := HTZ.out; have := HI.out; have := HM.out; omega
        case p5 => have := hb5'.size; simp; omega
        intro v' w6 hown6 hgrow _ _
        have hall : w5.grownBy w6 (Value.slice A m cc).ownBlock := (World.grownBy_alloc w5 _ _).trans hgrow
        have hB6 : Below w2.heap.size w2 w6 := hb5'.trans ⟨hall.os, hall.tape, hall.output, hall.size, fun k hk => hall.block k (by have := hb5'.size; omega) (fun e => by have := (World.ownsRow.lt hown5 k e.symm).1; omega)⟩
        have e1 : (o ++ [y]).map txtV = o.map txtV ++ [.string Y] := by rw [List.map_append, ← HY.out]; rfl
        rw [← e1] at hown6
        obtain ⟨A2, c2, rfl, _, _, _⟩ := Strs.of_own hown6 (by rw [List.length_append, HM.out]; rfl)
        have HO6 := Lib.hid hown6
        have HB6 := Lib.hid hB6
        clear hown6 hB6 hall hgrow hown5 hb5' e1
        go_wp2_with fail
        go_roundg f
        case measure => omega
        case rel =>
          have hl : (o ++ [y]).length = m + 1 := by rw [List.length_append, HM.out]; rfl
          refine ⟨nx, o ++ [y], A2, c2, HNX.out.2.1, by have := HI.out; have := HNX.out; omega, by rw [hl]; have := HI.out; have := HM.out; have := HNX.out; omega, by rw [hl], rfl, rfl, by rw [hl]; exact HO6.out, ?_, HB6.out⟩
          rw [← HRD2.out]
          simp
      · have hg := readsT_bad (f := f) (show i < T.data.toList.length by rw [text_size3]; exact hi) he
        have HRD2 := Lib.hid HRD.out
        rw [hg] at HRD2
        obtain ⟨u, hu⟩ : ∃ u, unframeT T.data.toList i = u := ⟨_, rfl⟩
        rw [hu] at HUN he HRD2
        obtain ⟨y, nx, ee⟩ := u
        dsimp only at HUN he HRD2
        obtain ⟨ez, hez⟩ : ∃ z : Int, (ee : Int) = z := ⟨_, rfl⟩
        have z1 : ez ≠ 0 := by omega
        have z2 : (ez == 0) = false := by simpa using z1
        have z3 : (ez != 0) = true := by simpa using z1
        have z4 : decide (ez = 0) = false := by simpa using z1
        rw [hez] at HUN
        have HEZ := Lib.hid hez
        obtain ⟨Y, hY⟩ : ∃ Y : ByteArray, (⟨y.toArray⟩ : ByteArray) = Y := ⟨_, rfl⟩
        have hYv : txtV y = .string Y := by rw [← hY]; rfl
        rw [hYv] at HUN
        clear hg hu hY hYv hez he
        go_wp2_with fail
        refine HUN.out.mono ?_
        rintro _ w5 ⟨rfl, hb5⟩
        have HO5 := Lib.hid (ownsRow.same HOWN.out fun k hk => hb5.block k (World.ownsRow.lt HOWN.out k hk).2)
        have HB5 : Hid (Below w2.heap.size w2 w5) := Lib.hid (HB.out.trans (hb5.mono HB.out.size))
        clear hb5
        go_wp2_with fail
        (try simp only [Exit.inBlock, Exit.then])
        refine bodyPost_ret (results_tmp4 rfl _ _ _) rfl ?_
        have hr2 := HRD2.out
        rw [List.append_nil] at hr2
        obtain rfl := hr2.symm
        have ho := HO5.out
        rw [← HM.out] at ho ⊢
        obtain ⟨A2, c2, e2, h2, h3, h4⟩ := Strs.of_own ho rfl
        injection e2 with e3 e4 e5
        subst e3 e5
        refine ⟨A, cc, by rw [HEZ.out]; rfl, h2, ?_, fun x hx => by have := h3 x hx; have := HB2.out.size; omega, HB2.out.trans (HB5.out.mono HB2.out.size)⟩
        rintro rfl
        rcases ho.2 with ⟨h5, _⟩ | ⟨_, _, _, h5, _⟩ <;> injection h5 with h6 h7 h8
        cases h6
    · have el : decide ((i : Int) < (T.size : Int)) = false := by simp; omega
      have hg := readsT_end (f := gk) (show ¬ i < T.data.toList.length by rw [text_size3]; exact hi)
      have HRD2 := Lib.hid HRD.out
      rw [hg] at HRD2
      clear hg
      go_wp2_with fail
      (try simp only [Exit.inBlock, Exit.then])
      refine bodyPost_ret (results_tmp4 rfl _ _ _) rfl ?_
      have hr2 := HRD2.out
      rw [List.append_nil] at hr2
      obtain rfl := hr2.symm
      have ho := HOWN.out
      rw [← HM.out] at ho ⊢
      obtain ⟨A2, c2, e2, h2, h3, h4⟩ := Strs.of_own ho rfl
      injection e2 with e3 e4 e5
      subst e3 e5
      refine ⟨A, cc, rfl, h2, ?_, fun x hx => by have := h3 x hx; have := HB2.out.size; omega, HB2.out.trans (HB.out.mono HB2.out.size)⟩
      rintro rfl
      rcases ho.2 with ⟨h5, _⟩ | ⟨_, _, _, h5, _⟩ <;> injection h5 with h6 h7 h8
      cases h6
end
end Go.Proofs.YtfpgbhimgfdddaaGreatDoor
