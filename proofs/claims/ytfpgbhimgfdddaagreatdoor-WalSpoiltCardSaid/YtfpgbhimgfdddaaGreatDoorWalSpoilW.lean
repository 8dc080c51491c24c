/- The walk of the law WalSpoilt (layer 16): a payload that is spoilt. -/
import Derived.Test.YtfpgbhimgfdddaaGreatDoorWalSpoilC
import Derived.Test.YtfpgbhimgfdddaaGreatDoorWax06
import Derived.Lib.IfaceNeq
import Derived.Lib.IfaceEq
set_option linter.unusedVariables false
set_option linter.unusedSimpArgs false
namespace Go.Proofs.YtfpgbhimgfdddaaGreatDoor
open Go.RowKit Go.Shelf Go.Sort
attribute [local go_sem ↓] Go.wp_at_zero Go.wp_at_succ
attribute [local go_sem] Later.cell Later.frozen
theorem Elems.takeW {w : World} {B sz n : Nat} {α : Type} {enc : α → List Value} {A : Option Addr} {xs : List α} (h : Elems w B sz enc A n xs) {y : Nat} (hy : y ≤ n) : Elems w B sz enc A y (xs.take y) :=
  ⟨by rw [List.length_take, h.1]; omega, fun h0 => by
    obtain ⟨b, off, e, hb, hc⟩ := h.2 (by omega)
    exact ⟨b, off, e, hb, fun i x hx j v hv => hc i x (by
      rw [List.getElem?_take] at hx
      split at hx
      · exact hx
      · cases hx) j v hv⟩⟩
theorem run_assertC (v : Value) (w : World) : (Instr.typeAssert (.iface 51 v) 32 51 true).run Tryz.prog w = .ok (.tuple #[v, .bool true]) w := by
  simp [Instr.typeAssert, run_underlying Tryz.underlying51, go_sem, Result.andThen]
section
variable {B0 : Nat} {a : Nat → Addr}
set_option maxRecDepth 100000 in
set_option maxHeartbeats 16000000 in
theorem walspoilt_calls (A : Option Addr) (n c : Nat) (l : List Txt) (pick at_ : Int) (mk : UInt8) (hp1 : -9223372036854775808 ≤ pick) (hp2 : pick ≤ 9223372036854775807) (ha1 : -9223372036854775808 ≤ at_) (ha2 : at_ ≤ 9223372036854775807) (w : World) (hl : Strs w A n l)
    (hlen : ∀ t ∈ l, t.length ≤ 140737488355328) (hn : n ≤ 140737488355328) (hC : SCon B0 a) (hE : SEnv B0 a w) (h6 : Fail6 B0 a w) :
    Calls Tryz.prog 7 #[.agg #[.slice A n c, .int .i64 pick, .int .i64 at_, .int .u8 (mk.toNat : Int)]] w fun e w' => e = .returned (.bool true) ∧ Below w.heap.size w w' := by
  have HL := Lib.hid hl
  have HLEN := Lib.hid (⟨hlen, hn⟩ : _ ∧ _)
  have HC := Lib.hid hC
  have HE := Lib.hid hE
  have H6 := Lib.hid h6
  have HPA := Lib.hid (⟨⟨hp1, hp2⟩, ha1, ha2⟩ : (_ ∧ _) ∧ _ ∧ _)
  clear hl hlen hC hE h6 hp1 hp2 ha1 ha2
  go_enter Tryz.func7, Tryz.ntmps7
  go_wp2_with fail
  obtain ⟨U, hU⟩ : ∃ Q, w.heap.size = Q := ⟨_, rfl⟩
  obtain ⟨w0, hw0⟩ : ∃ X', w.alloc (.cells #[.slice A n c, .int .i64 pick, .int .i64 at_, .int .u8 (mk.toNat : Int)] 80) = X' := ⟨_, rfl⟩
  have HU0 : Hid (Blk w0 U 80 #[.slice A n c, .int .i64 pick, .int .i64 at_, .int .u8 (mk.toNat : Int)]) := Lib.hid (by rw [← hw0, ← hU]; exact Blk.new w _ _)
  have HBW : Hid (Below w.heap.size w w0) := Lib.hid (by rw [← hw0]; exact (Below.refl _ _).alloc (Nat.le_refl _) _)
  have HUE := Lib.hid hU
  rw [hw0, hU]
  clear hU hw0
  have HWK0 := Lib.hid (wakes16_calls w0 HC.out (HE.out.low HC.out HBW.out) (H6.out.below (HBW.out.mono HE.out.hb)))
  refine HWK0.out.mono ?_
  rintro e w1 ⟨rfl, hb1⟩
  have HB1 := Lib.hid (HBW.out.trans (hb1.mono HBW.out.size))
  have HU1 := Lib.hid (HU0.out.below hb1 HU0.out.lt)
  clear hb1
  have HNEW := Lib.hid (Dk.made (B0 := B0) 67108864 (by decide) (by decide) w1 (HE.out.low HC.out HB1.out).hb)
  go_wp2_with fail
  refine HNEW.out.mono ?_
  rintro e w3 ⟨p, R, rfl, hD3, hb3, hr3⟩
  have HB3 := Lib.hid (HB1.out.trans (hb3.mono HB1.out.size))
  have HR3 := Lib.hid hr3
  have HU3 := Lib.hid (⟨HU1.out.below hb3 HU1.out.lt, hr3 U HU1.out.lt⟩ : _ ∧ _)
  have HOP := Lib.hid (wl_new (D := wW) (size := 1) (by decide) (by decide) 1 (by decide) (by decide) (by decide) 67108864 w3 hD3 (by decide) HC.out (HE.out.low HC.out HB3.out) (H6.out.below (HB3.out.mono HE.out.hb)))
  unfold wW at HOP
  clear hD3 hb3 hr3
  go_wp2_with fail
  refine HOP.out.mono ?_
  rintro e w4 ⟨g4, R4, d4, rfl, hg4, hl4, hu4, ho4⟩
  have HU4 := Lib.hid (⟨ho4.blk HU3.out.1 HU3.out.2, ho4.old U HU3.out.1.lt HU3.out.2⟩ : _ ∧ _)
  have HLR : Hid (RowR w3 R 1 enc1 A n l) := Lib.hid ⟨HL.out.below HB3.out, fun x hx h0 => by
    obtain ⟨b, off, e, hb, _⟩ := HL.out.2 h0
    rw [e] at hx
    obtain rfl := Option.some.inj hx
    exact HR3.out _ (Nat.lt_of_lt_of_le hb HB1.out.size)⟩
  have HP4 : Hid (SpoI B0 a p R w3 ⟨[], 1, []⟩ [] d4 4 R4 none 0 g4 w4) := Lib.hid ⟨hl4, rfl, KRow.nil _ _ _, (fun x hx => by cases hx), Nat.le_refl _, by rw [hu4]; exact Nat.zero_le _, by decide, by decide, .inl ⟨rfl, rfl⟩, (fun e he => by cases he), ho4, hg4⟩
  clear hg4 hl4 hu4 ho4
  have m0 : w4.cell? ⟨U, 0, none⟩ = some (.slice A n c) := HU4.out.1.cell 0
  go_wp2_with fail
  clear m0
  obtain ⟨i0, hi0, hz0, hz1, hz2⟩ := info_parts info_ent
  go_loopg [7, 34] n (fun gh s7 s34 wr => ∃ (i : Nat) (m : WM) (k : List (Txt × Nat)) (d : Ds) (M : Nat) (Rr : Nat → Nat) (ao : Option Addr) (cap : Nat), i + gh = n ∧ s34 = .int .i64 (i : Int) ∧ s7 = .slice ao k.length cap ∧ SpoI B0 a p R w3 m k d M Rr ao cap g4 wr)
  case atStart => exact ⟨0, _, [], _, _, _, _, _, by omega, rfl, rfl, HP4.out⟩
  case round =>
    obtain ⟨i, m, k, d, M, Rr, ao, cap, hig, rfl, rfl, hP⟩ := hrel
    have HIG := Lib.hid hig
    have HP := Lib.hid hP
    clear hig hP
    by_cases hi : i < n
    · have el : decide ((i : Int) < (n : Int)) = true := by simp; omega
      have e0 : (i : Int) < (n : Int) := by omega
      have e1 : (0 : Int) ≤ (i : Int) := by omega
      obtain ⟨b, off, rfl, hbl, x0⟩ := Strs.at_ (RowR.out HLR.out HP.out.out).1 (i := i) hi
      obtain ⟨X, hX⟩ : ∃ X : ByteArray, (⟨(l[i]!).toArray⟩ : ByteArray) = X := ⟨_, rfl⟩
      have hXv : txtV l[i]! = .string X := by rw [← hX]; rfl
      have hXs : X.size ≤ 140737488355328 := by
        have hil : i < l.length := by have := HL.out.len; omega
        have h1 := HLEN.out.1 (l[i]!) (by rw [getElem!_pos l i hil]; exact List.getElem_mem hil)
        rw [← text_size3, ← hX]
        exact h1
      rw [hXv] at x0
      clear hX hXv
      obtain ⟨L, hL⟩ : ∃ L, k.length = L := ⟨_, rfl⟩
      have HLL := Lib.hid hL
      rw [hL]
      clear hL
      have HFT := Lib.hid (fit16_calls X hXs wr)
      by_cases hfit : 0 < X.size ∧ X.size ≤ 65536
      · rw [decide_eq_true hfit] at HFT
        by_cases h50 : L < 50
        · have f1 : decide (L < 50) = true := decide_eq_true h50
          have f2 : decide ((L : Int) < 50) = true := by simp; omega
          have HAP := Lib.hid (wl_append X hfit.1 (by omega) (by decide) (by decide) (by decide) wr HP.out.wl (by have := HP.out.mm; have := HLL.out; omega) HC.out (by have := HP.out.us; have := HLL.out; omega) (by have := HP.out.mn; have := HLL.out; omega))
          have HFI := Lib.hid (⟨hfit, h50⟩ : _ ∧ _)
          clear hfit h50
          go_wp2_with fail
          refine HFT.out.mono ?_
          rintro e w8 ⟨rfl, rfl⟩
          go_wp2_with fail
          refine HAP.out.mono ?_
          rintro e w9 ⟨rfl, R9, d9, hl9, hu9, hog9⟩
          obtain ⟨hkr9, hkz9, hout9⟩ := HP.out.keep hog9
          have HSE := Lib.hid (segment_calls w9 hl9.wat.lg)
          obtain ⟨q, hq⟩ : ∃ q, (m.app 1 X.data.toList).n = q := ⟨_, rfl⟩
          rw [hq] at HSE
          obtain ⟨qz, hqz⟩ : ∃ z : Int, (q : Int) = z := ⟨_, rfl⟩
          rw [hqz] at HSE
          have hb10 : Below w9.heap.size w9 (w9.alloc (.cells #[.string X, .int .i64 qz] 87)) := (Below.refl _ _).alloc (Nat.le_refl _) _
          have hkr10 : KRow (w9.alloc (.cells #[.string X, .int .i64 qz] 87)) w3.heap.size 2 ao k.length cap (k.flatMap encEnt) := hkr9.keep hb10.size fun x hx h0 => hb10.block _ (hkr9.lt x hx h0).2
          obtain ⟨ao', cap', w11, hrun, hkr11, hgr11, hat11⟩ := run_append_krow (P := Tryz.prog) 84 84 87 i0 (.agg #[.string ⟨#[]⟩, .int .i64 0]) 24 Tryz.underlying84 hi0 hz0 hz1 hz2 rfl (by decide) hkr10 (by have := hout9.size; have := hb10.size; omega) ⟨w9.heap.size, 0, none⟩ 1 [.string X, .int .i64 qz] rfl (news_of_blk (l := [.string X, .int .i64 qz]) (Blk.new w9 _ _)) (by intro u hu; simp at hu; rcases hu with rfl | rfl <;> rfl) (by unfold maxLen; have := HLL.out; have := HFI.out.2; omega) (by have := HLL.out; have := HFI.out.2; omega)
          rw [HLL.out] at hrun
          have HRUN := Lib.hid hrun
          have hent : k.flatMap encEnt ++ [.string X, .int .i64 qz] = (k ++ [(X.data.toList, q)]).flatMap encEnt := by
            rw [List.flatMap_append, ← hqz]
            rfl
          have HP11 : Hid (SpoI B0 a p R w3 (m.app 1 X.data.toList) (k ++ [(X.data.toList, q)]) d9 (M + X.size + 13) R9 ao' cap' g4 w11) := Lib.hid (by
            have hl10 := hl9.below HC.out hb10
            have hzz : ∀ x, ao = some x → 0 < cap → R9 x.block = 0 ∧ x.block ≠ g4 ∧ w3.heap.size ≤ x.block := fun x hx h0 => ⟨(hkz9 x hx h0).1, (hkz9 x hx h0).2, (hkr9.lt x hx h0).1⟩
            have hu7 := HP.out.us
            have hm7 := HP.out.mm
            have hn7 := HP.out.mn
            have hap := WM.app_n m 1 X.data.toList
            have hll := HLL.out
            have hfi := HFI.out
            have hkl : (k ++ [(X.data.toList, q)]).length = k.length + 1 := by rw [List.length_append]; rfl
            refine ⟨hl10.grown HC.out hgr11 hzz (HE.out.low HC.out HB3.out).hb, ?_, ?_, fun x hx h0 => ?_, by omega, by omega, by omega, by omega, .inr (one_app (by rcases HP.out.one with ⟨h, _⟩ | h; exact .inl h; exact .inr h) _), ?_, (hout9.trans (Out.of_below hb10)).grown hgr11 (fun x hx h0 => (hzz x hx h0).2.2), HP.out.gb⟩
            · rw [WM.kept_app, ← HP.out.kk, hq]
            · rw [← hent, List.length_append]
              exact hkr11
            · rcases hat11 x hx with ⟨h1, h2⟩ | h2
              · cases ao with
                | none => cases h2
                | some y =>
                  injection h2 with h2
                  rw [← h2]
                  exact hkz9 y rfl h1
              · exact ⟨hl10.wat.dk.new h2, by have := hl10.wat.lg.lt; omega⟩
            · intro e he
              rcases List.mem_append.1 he with he | he
              · exact HP.out.fit e he
              · obtain rfl := List.mem_singleton.1 he
                dsimp only
                rw [text_size3]
                exact hfi.1)
          have HKL : Hid ((k ++ [(X.data.toList, q)]).length = L + 1) := Lib.hid (by rw [List.length_append, HLL.out]; rfl)
          clear hl9 hu9 hog9 hkr9 hkz9 hout9 hrun hkr11 hgr11 hat11 hkr10 hb10 hent hq hqz
          go_wp2_with fail
          refine HSE.out.mono ?_
          rintro e w10 ⟨rfl, rfl⟩
          go_wp2_with (at_builtin; refine wpList_append_knownW rfl _ _ 84 rfl rfl rfl HRUN.out ?_)
          go_roundg (gk - 1)
          case measure => have := HIG.out; omega
          case rel => exact ⟨i + 1, _, _, d9, _, R9, ao', cap', by have := HIG.out; omega, by go_num, by rw [HKL.out], HP11.out⟩
        · have f1 : decide (L < 50) = false := decide_eq_false h50
          have f2 : decide ((L : Int) < 50) = false := by simp; omega
          clear hfit h50
          go_wp2_with fail
          refine HFT.out.mono ?_
          rintro e w8 ⟨rfl, rfl⟩
          go_wp2_with fail
          go_roundg (gk - 1)
          case measure => have := HIG.out; omega
          case rel => exact ⟨i + 1, m, k, d, M, Rr, ao, cap, by have := HIG.out; omega, by go_num, by rw [HLL.out], HP.out⟩
      · rw [decide_eq_false hfit] at HFT
        clear hfit
        go_wp2_with fail
        refine HFT.out.mono ?_
        rintro e w8 ⟨rfl, rfl⟩
        go_wp2_with fail
        go_roundg (gk - 1)
        case measure => have := HIG.out; omega
        case rel => exact ⟨i + 1, m, k, d, M, Rr, ao, cap, by have := HIG.out; omega, by go_num, by rw [HLL.out], HP.out⟩
    · have el : decide ((i : Int) < (n : Int)) = false := by simp; omega
      obtain ⟨L, hL⟩ : ∃ L, k.length = L := ⟨_, rfl⟩
      have HLL := Lib.hid hL
      rw [hL]
      clear hL
      have HFB : Hid (Below w.heap.size w wr) := Lib.hid (HB3.out.trans (HP.out.out.below HB3.out.size fun b hb => HR3.out b (Nat.lt_of_lt_of_le hb HB1.out.size)))
      by_cases hk0 : L = 0
      · subst hk0
        go_wp2_with fail
        go_ret
        exact ⟨rfl, HFB.out⟩
      · have k1 : decide (L = 0) = false := decide_eq_false hk0
        have k2 : (L == 0) = false := by simpa using hk0
        have k2' : ((L : Int) == 0) = false := by simpa using hk0
        have hL50 : L ≤ 50 := by rw [← HLL.out]; exact HP.out.kl
        have hLc : L ≤ cap := by rw [← HLL.out]; exact HP.out.kr.le
        have hw : wrap64 ((L : Int) - 1) = (L : Int) - 1 := by unfold wrap64; omega
        have HUR : Hid (Blk wr U 80 #[.slice A n c, .int .i64 pick, .int .i64 at_, .int .u8 (mk.toNat : Int)]) := Lib.hid (HP.out.out.blk HU3.out.1 HU3.out.2)
        obtain ⟨mz, hmz⟩ : ∃ z : Int, (mk.toNat : Int) = z := ⟨_, rfl⟩
        have HMZ := Lib.hid hmz
        have m0 : wr.cell? ⟨U, 0, none⟩ = some (.slice A n c) := HUR.out.cell 0
        have m1 : wr.cell? ⟨U, 1, none⟩ = some (.int .i64 pick) := HUR.out.cell 1
        have m2 : wr.cell? ⟨U, 2, none⟩ = some (.int .i64 at_) := HUR.out.cell 2
        have m3 : wr.cell? ⟨U, 3, none⟩ = some (.int .u8 mz) := by rw [← hmz]; exact HUR.out.cell 3
        rw [hmz]
        clear hmz
        by_cases hm0 : mz = 0
        · subst hm0
          go_wp2_with fail
          go_ret
          exact ⟨rfl, HFB.out⟩
        · have z1 : decide (mz = 0) = false := decide_eq_false hm0
          have z2 : (mz == 0) = false := by simpa using hm0
          obtain ⟨y, hy⟩ : ∃ y : Nat, max 0 pick % (L : Int) = (y : Int) := ⟨(max 0 pick % (L : Int)).toNat, by have := Int.emod_nonneg (max 0 pick) (show (L : Int) ≠ 0 by omega); omega⟩
          have hy1 : (y : Int) < (L : Int) := by rw [← hy]; exact Int.emod_lt_of_pos _ (by omega)
          have hy2 : y < L := by omega
          have hy0 : (0 : Int) ≤ (y : Int) := by omega
          have hyc : y ≤ cap := by omega
          obtain ⟨en, hen⟩ : ∃ en, k[y]? = some en := ⟨_, List.getElem?_eq_getElem (by rw [HLL.out]; exact hy2)⟩
          obtain ⟨b2, off2, hao, hb2, x0, x1⟩ := elems_ent (HP.out.kr.elems rfl) hen
          subst hao
          have HEN := Lib.hid hen
          obtain ⟨ep, es⟩ := en
          dsimp only at x0 x1
          have hefit := HP.out.fit _ (List.mem_of_getElem? hen)
          obtain ⟨X, hX⟩ : ∃ X : ByteArray, (⟨ep.toArray⟩ : ByteArray) = X := ⟨_, rfl⟩
          have hXv : txtV ep = .string X := by rw [← hX]; rfl
          have hXl : X.data.toList = ep := by rw [← hX]
          have hXs : ep.length = X.size := by rw [← text_size3, ← hX]
          rw [hXv] at x0
          dsimp only at hefit
          rw [hXs] at hefit
          have HEX := Lib.hid (⟨hXl, hefit⟩ : _ ∧ _)
          clear hX hXv hXl hXs hefit hen
          have HMN := Lib.hid hm0
          clear hm0
          have HSG : Hid ((es, [ep]) ∈ m.segs ∧ m.segs[y]? = some (es, [ep]) ∧ m.segs.length = L ∧ OneW m ∧ 1 ≤ es ∧ es ≤ 99999999) := Lib.hid (by
            have h1 : OneW m := by
              rcases HP.out.one with ⟨_, h⟩ | h
              · exact absurd (by rw [← HLL.out, h]; rfl) hk0
              · exact h
            have h2 := HEN.out
            have h4 := HLL.out
            rw [HP.out.kk] at h2 h4
            have h3 := one_kept h1 y _ h2
            have h5 := one_len h1
            have h6 := HP.out.wl.segR es (List.mem_map.2 ⟨_, List.mem_of_getElem? h3, rfl⟩)
            exact ⟨List.mem_of_getElem? h3, h3, h5.symm.trans h4, h1, h6⟩)
          have HNA := Lib.hid (wname_calls (es : Int) (by omega) (by have := HSG.out.2.2.2.2.2; omega) wr HP.out.wl.wat.en.pow)
          obtain ⟨Nm, hNm⟩ : ∃ N : ByteArray, (⟨(nameT sS (es : Int)).toArray⟩ : ByteArray) = N := ⟨_, rfl⟩
          rw [hNm] at HNA
          obtain ⟨P, hP⟩ : ∃ P : ByteArray, (⟨#[119, 47]⟩ : ByteArray) ++ Nm = P := ⟨_, rfl⟩
          have HPL : Hid (P.data.toList = wP wW.data.toList (es : Int)) := Lib.hid (by
            rw [← hP, ← hNm]
            simp [wP, wW])
          obtain ⟨o, ho⟩ : ∃ o : Nat, 4 + max 0 at_ % ((X.size : Int) + 4) = (o : Int) := ⟨(4 + max 0 at_ % ((X.size : Int) + 4)).toNat, by have := Int.emod_nonneg (max 0 at_) (show ((X.size : Int) + 4) ≠ 0 by omega); omega⟩
          have HO : Hid (4 ≤ o ∧ o < X.size + 8) := Lib.hid (by
            have h1 := Int.emod_nonneg (max 0 at_) (show ((X.size : Int) + 4) ≠ 0 by omega)
            have h2 := Int.emod_lt_of_pos (max 0 at_) (show 0 < ((X.size : Int) + 4) by omega)
            omega)
          have hNs : Nm.size ≤ 9 := by
            rw [← hNm, ← text_size3]
            show (nameT sS (es : Int)).length ≤ 9
            unfold nameT
            split
            · decide
            · rw [List.length_append, padN_len]; decide
          clear hNm
          obtain ⟨ez, hez⟩ : ∃ z : Int, (es : Int) = z := ⟨_, rfl⟩
          have HEZ := Lib.hid hez
          rw [hez] at x1 HNA
          clear hez
          go_wp2_with fail
          refine HNA.out.mono ?_
          rintro e w5 ⟨rfl, hb5⟩
          have HP5 := Lib.hid (HP.out.below HC.out hb5)
          have HUR5 := Lib.hid (HUR.out.below hb5 HUR.out.lt)
          have m0 : w5.cell? ⟨U, 0, none⟩ = some (.slice A n c) := HUR5.out.cell 0
          have m1 : w5.cell? ⟨U, 1, none⟩ = some (.int .i64 pick) := HUR5.out.cell 1
          have m2 : w5.cell? ⟨U, 2, none⟩ = some (.int .i64 at_) := HUR5.out.cell 2
          have m3 : w5.cell? ⟨U, 3, none⟩ = some (.int .u8 mz) := by rw [← HMZ.out]; exact HUR5.out.cell 3
          have x0 := (World.cell?_of_block (w := wr) (a := ⟨b2, off2 + y * 2, none⟩) (hb5.block _ hb2)).trans x0
          have x1 := (World.cell?_of_block (w := wr) (a := ⟨b2, off2 + y * 2 + 1, none⟩) (hb5.block _ hb2)).trans x1
          clear hb5
          have hXb : X.size ≤ 65536 := HEX.out.2.2
          have hr1 := Int.emod_nonneg (max 0 at_) (show ((X.size : Int) + 4) ≠ 0 by omega)
          have hr2 := Int.emod_lt_of_pos (max 0 at_) (show 0 < ((X.size : Int) + 4) by omega)
          have hul : U < w5.heap.size := HUR5.out.lt
          have hbl5 : b2 < w5.heap.size := lt_of_cell x0
          go_upto_region 20 with fail
          refine wp_region_later_tail 16 (by kernel_rfl) (by kernel_rfl) ?_
          simp only [List.take_succ_cons, List.take_zero, List.drop_succ_cons, List.drop_zero]
          repeat (go_big_quiet_step (fail))
          refine wpQuiet_nil ?_
          rintro w6 ⟨⟨w6, hb6⟩, rfl⟩
          have HP6 := Lib.hid (HP5.out.below HC.out hb6)
          have HUR6 := Lib.hid (HUR5.out.below hb6 HUR5.out.lt)
          have HX6 := Lib.hid (⟨(World.cell?_of_block (w := w5) (a := ⟨b2, off2 + y * 2, none⟩) (hb6.block _ hbl5)).trans x0, (World.cell?_of_block (w := w5) (a := ⟨b2, off2 + y * 2 + 1, none⟩) (hb6.block _ hbl5)).trans x1⟩ : _ ∧ _)
          have HFL := Lib.hid (HP6.out.wl.wat.dk.flip (by have := HP.out.mm; have := HP.out.kl; omega) HP6.out.wl.wat.en.hb HP6.out.wl.wat.en.e.f HP6.out.wl.wat.f6 P o mk (wP_size HPL.out (by decide)) (by have := HO.out.2; omega))
          rw [HMZ.out, HPL.out] at HFL
          have HFD : Hid ((flipD d (wP wW.data.toList (es : Int)) (o : Int) mk).1 = 0 ∧ ∃ l1 i1 C1 C2, WalR wW.data.toList m l1 i1 C1 d ∧ WalD wW.data.toList (l1 ++ [⟨m.n, i1⟩]) C2 (flipD d (wP wW.data.toList (es : Int)) (o : Int) mk).2 ∧ rdT (C2 es) = ([], 0, 22) ∧ (C2 es).length = ep.length + 9 ∧ (∀ j, j ≠ es → C2 j = C1 j) ∧ (flipD d (wP wW.data.toList (es : Int)) (o : Int) mk).2.cap = d.cap) := Lib.hid (by
            obtain ⟨l1, i1, C1, hrw⟩ := HP.out.wl.rr
            have hpl : ep.length = X.size := by rw [← HEX.out.1, text_size3]
            obtain ⟨f1, ⟨C2, f2, f3, f4, f5⟩, f6⟩ := hrw.flip HP.out.wl.ok HSG.out.1 (k := o) (x := mk) HO.out.1 (by have := HO.out.2; omega) (fun h => HMN.out (by rw [← HMZ.out, h]; rfl))
            exact ⟨f1, l1, i1, C1, C2, hrw, f2, f3, f4, f5, f6⟩)
          clear hb6 m0 m1 m2 m3 x0 x1 hr1 hr2 hul hbl5
          go_wp2_with fail
          refine HFL.out.mono ?_
          rintro e w7 ⟨v7, R7, rfl, hv7, hd7, ho7⟩
          rw [HFD.out.1] at hv7
          obtain rfl := hv7.z
          obtain ⟨d7, hd7e⟩ : ∃ d7, (flipD d (wP wW.data.toList (es : Int)) (o : Int) mk).2 = d7 := ⟨_, rfl⟩
          rw [hd7e] at HFD hd7
          have HD7 := Lib.hid hd7
          have HO7 := Lib.hid ho7
          have HE7 := Lib.hid (HP6.out.wl.wat.en.out HC.out HP6.out.wl.wat.dk ho7)
          have H67 := Lib.hid (HP6.out.wl.wat.f6.below (ho7.below HP6.out.wl.wat.en.hb HP6.out.wl.wat.dk.low))
          clear hv7 hd7 ho7 hd7e
          by_cases hlast : y + 1 < L
          · have HOPB := Lib.hid (by
              obtain ⟨_, l1, i1, C1, C2, f1, f2, f3, f4, f5, f6⟩ := HFD.out
              exact wl_open_bad (D := wW) (size := 1) (n := es) (j := y) (by decide) (by decide) w7 HD7.out HP.out.wl.ok f1 f2 (by have := HP.out.wl.us; have := HP.out.wl.kb; omega) f3 (by rw [f4, ← HEX.out.1, text_size3]; have := HEX.out.2.2; omega) f5 (by rw [List.getElem?_map, HSG.out.2.1]; rfl) (by rw [HSG.out.2.2.1]; exact hlast) (by have := HP.out.mm; have := HP.out.kl; omega) HC.out HE7.out H67.out)
            unfold wW at HOPB
            have k3 : decide ((y : Int) < (L : Int) - 1) = true := by simp; omega
            have k4 : decide (y < L - 1) = true := by simp; omega
            have k5 : decide (y + 1 < L) = true := by simp; omega
            have k6 : decide ((y : Int) + 1 < (L : Int)) = true := by simp; omega
            go_wp2_with fail
            refine HOPB.out.mono ?_
            rintro e w8 ⟨q, P8, R8, rfl, hp8, hq8, hq8l, ho8⟩
            obtain rfl : P8 = P := bytes_eq (hp8.trans HPL.out.symm)
            have q0 : w8.cell? ⟨q, 0, none⟩ = some (.string P8) := hq8.cell 0
            have q1 : w8.cell? ⟨q, 1, none⟩ = some (.int .i64 22) := hq8.cell 1
            have hta := fun v w => run_assertC v w
            have HF8 : Hid (Below w.heap.size w w8) := Lib.hid (HB3.out.trans ((HP6.out.out.trans (HO7.out.trans ho8)).below HB3.out.size fun b hb => HR3.out b (Nat.lt_of_lt_of_le hb HB1.out.size)))
            clear hq8 hp8 hq8l ho8
            go_wp2_with fail
            go_ret
            exact ⟨rfl, HF8.out⟩
          · have k3 : decide ((y : Int) < (L : Int) - 1) = false := by simp; omega
            have k4 : decide (y < L - 1) = false := by simp; omega
            have k5 : decide (y + 1 < L) = false := by simp; omega
            have k6 : decide ((y : Int) + 1 < (L : Int)) = false := by simp; omega
            have hyl : y + 1 = L := by omega
            have HES : Hid (es = m.n ∧ m.init.flatMap (·.2) = (k.take y).map (·.1) ∧ (m.init.flatMap (·.2)).length = y) := Lib.hid (by
              have h1 := HSG.out.2.1
              have h2 := HSG.out.2.2.1
              have h3 : m.segs = m.init ++ [(m.n, m.ps)] := rfl
              have h4 : m.init.length = y := by rw [h3, List.length_append] at h2; simp at h2; omega
              rw [h3, List.getElem?_append_right (by omega), h4, Nat.sub_self] at h1
              have h5 := Option.some.inj h1
              have h6 : (m.init.flatMap (·.2)).length = y := by
                have h7 := one_len (l := m.init) fun s hs => HSG.out.2.2.2.1 s (List.mem_append_left _ hs)
                have h8 : (m.init.flatMap fun s => s.2.map fun p => (p, s.1)).map (·.1) = m.init.flatMap (·.2) := by
                  rw [List.map_flatMap]
                  congr 1
                  funext s
                  simp [Function.comp_def]
                rw [← h8, List.length_map, h7, h4]
              refine ⟨(congrArg Prod.fst h5).symm, ?_, h6⟩
              have h9 : k.map (·.1) = m.texts := by rw [HP.out.kk, WM.kept_texts]
              have h10 : m.texts = m.init.flatMap (·.2) ++ m.ps := by
                show m.segs.flatMap (·.2) = _
                rw [h3, List.flatMap_append]
                simp
              rw [List.map_take, h9, h10, List.take_left' h6])
            have HOPT := Lib.hid (by
              obtain ⟨_, l1, i1, C1, C2, f1, f2, f3, f4, f5, f6⟩ := HFD.out
              rw [HES.out.1] at f3 f4 f5
              exact wl_open_torn (D := wW) (size := 1) (by decide) (by decide) w7 HD7.out HP.out.wl.ok f1 f2 (f6.trans HP.out.wl.cap) HP.out.wl.us HP.out.wl.kb f3 (by rw [f4, ← HEX.out.1, text_size3]; have := HEX.out.2.2; omega) f5 (by have := HP.out.mm; have := HP.out.kl; omega) HC.out HE7.out H67.out)
            unfold wW at HOPT
            rw [HES.out.2.2] at HOPT
            go_wp2_with fail
            refine HOPT.out.mono ?_
            rintro e w8 ⟨g8, X8, c8, R8, d8, rfl, hx8, hg8, hxf8, hl8, ho8⟩
            have hkr8 : KRow w8 w3.heap.size 2 (some ⟨b2, off2, none⟩) k.length cap (k.flatMap encEnt) := HP6.out.kr.keep (HO7.out.trans ho8).size fun x hx h0 => (HO7.out.trans ho8).block _ (HP6.out.kr.lt x hx h0).2 (HP6.out.kz x hx h0).1
            have HTX := Lib.hid (texts16_calls X8 (some ⟨b2, off2, none⟩) y c8 cap (m.init.flatMap (·.2)) (k.take y) w8 hx8 ((hkr8.elems rfl).takeW (by rw [HLL.out]; omega)) HES.out.2.1 (by omega))
            have HL8 := Lib.hid hl8
            have HO8 := Lib.hid (HP6.out.out.trans (HO7.out.trans ho8))
            clear hkr8 hx8 hg8 hxf8 hl8 ho8
            go_wp2_with fail
            refine HTX.out.mono ?_
            rintro e w9 ⟨rfl, hb9⟩
            have HL9 := Lib.hid (HL8.out.below HC.out hb9)
            have HO9 := Lib.hid (HO8.out.trans (Out.of_below (R := R8) hb9))
            have HAG := Lib.hid (again16_calls w9 HL9.out (by decide) (by have := HP.out.mm; have := HP.out.kl; omega) HC.out)
            clear hb9
            go_wp2_with fail
            refine HAG.out.mono ?_
            rintro e w10 ⟨rfl, R10, ho10⟩
            have HF10 : Hid (Below w.heap.size w w10) := Lib.hid (HB3.out.trans ((HO9.out.trans ho10).below HB3.out.size fun b hb => HR3.out b (Nat.lt_of_lt_of_le hb HB1.out.size)))
            clear ho10
            go_wp2_with fail
            go_ret
            exact ⟨rfl, HF10.out⟩
end
end Go.Proofs.YtfpgbhimgfdddaaGreatDoor
