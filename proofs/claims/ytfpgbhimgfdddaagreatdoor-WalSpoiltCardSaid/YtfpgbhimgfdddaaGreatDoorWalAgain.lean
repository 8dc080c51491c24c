/- The walk of 'again' of layer 16's laws: opening once more tells the same, and changes nothing. -/
import Derived.Test.YtfpgbhimgfdddaaGreatDoorWax05
import Derived.Lib.IfaceNeq
set_option linter.unusedVariables false
set_option linter.unusedSimpArgs false
namespace Go.Proofs.YtfpgbhimgfdddaaGreatDoor
open Go.RowKit Go.Shelf Go.Sort
attribute [local go_sem ↓] Go.wp_at_zero Go.wp_at_succ
attribute [local go_sem] Later.cell Later.frozen
section
variable {B0 K M p g : Nat} {a : Nat → Addr} {R R' : Nat → Nat} {d : Ds} {w w' : World} {D : ByteArray} {size : Int} {m : WM}
theorem Dk.listAtR (h : Dk B0 M w R p d) (hM : M ≤ 536870912) (hB : B0 ≤ w.heap.size) (hF : Fails B0 a w) (S : ByteArray) (hS0 : S.data.toList ≠ []) (hS : S.size ≤ 1073741824) (l : List En) (hl : listD d S.data.toList = (l, 0)) :
    Calls Tryz.prog 29 #[.pointer (some ⟨p, 0, none⟩), .string S] w fun e w' => ∃ X c, e = .returned (.tuple #[.slice X l.length c, .nilIface]) ∧ Elems w' w'.heap.size 3 encE X l.length l ∧ (∀ x, X = some x → w.heap.size ≤ x.block) ∧ Below w.heap.size w w' := by
  obtain ⟨A, hc, rfl⟩ := h.ex
  refine (list_dir (a := a) S hS0 w hc (h.wf.fit hM) hS hB hF (fun i => by have := h.wf.nl hM i; omega)).mono ?_
  rintro e w' ⟨v, u, rfl, h1, h2, h3⟩
  rw [hl] at h1 h2
  obtain rfl : u = .nilIface := h1
  obtain ⟨X, c, rfl, he, hf, _⟩ := Elems.of_own (enc := encE) (xs := l) (fun _ _ => rfl) rfl h2 rfl
  exact ⟨X, c, rfl, he, hf, h3⟩
/-- A row that the disk has no part in. -/
def RowR {α : Type} (w : World) (R : Nat → Nat) (sz : Nat) (enc : α → List Value) (A : Option Addr) (n : Nat) (xs : List α) : Prop := Elems w w.heap.size sz enc A n xs ∧ ∀ x, A = some x → 0 < n → R x.block = 0
theorem RowR.out {sz n : Nat} {α : Type} {enc : α → List Value} {A : Option Addr} {xs : List α} (h : RowR w R sz enc A n xs) (ho : Out R R' w w') : RowR w' R' sz enc A n xs :=
  ⟨⟨h.1.1, fun hn => by
    obtain ⟨b, off, e, hb, hc⟩ := h.1.2 hn
    exact ⟨b, off, e, Nat.lt_of_lt_of_le hb ho.size, fun i x hx j v hv => (World.cell?_of_block (w := w) (ho.block b hb (h.2 _ e hn))).trans (hc i x hx j v hv)⟩⟩, fun x hx hn => by
    obtain ⟨b, off, e, hb, hc⟩ := h.1.2 hn
    have h0 := h.2 _ e hn
    rw [e] at hx
    obtain rfl := Option.some.inj hx
    exact ho.old b hb h0⟩
set_option maxRecDepth 100000 in
set_option maxHeartbeats 8000000 in
theorem again16_calls (w : World) (h : WL B0 a K M p g R wW size m d w) (hs1 : 1 ≤ size) (hM : M + 8 ≤ 536870912) (hC : SCon B0 a) :
    Calls Tryz.prog 39 #[.pointer (some ⟨p, 0, none⟩), .int .i64 size] w fun e w' => e = .returned (.bool true) ∧ ∃ R', Out R R' w w' := by
  obtain ⟨l, hl⟩ : ∃ l, listD d wW.data.toList = (l, 0) := by
    obtain ⟨l0, i, C, hr⟩ := h.rr
    exact ⟨_, Prod.ext rfl hr.list.1⟩
  have HL := Lib.hid hl
  have H := Lib.hid h
  have HC := Lib.hid hC
  have HM := Lib.hid (⟨hM, hs1⟩ : _ ∧ _)
  have HL1 := Lib.hid (h.wat.dk.listAtR (by omega) h.wat.en.hb h.wat.en.e.f wW (by decide) (by decide) l hl)
  unfold wW at HL1
  clear h hC hM hl hs1
  go_enter Tryz.func39, Tryz.ntmps39
  go_wp2_with fail
  refine HL1.out.mono ?_
  rintro e w1 ⟨X1, c1, rfl, he1, hf1, hb1⟩
  have H1 := Lib.hid (H.out.below HC.out hb1)
  have HX1 : Hid (RowR w1 R 3 encE X1 l.length l) := Lib.hid ⟨he1, fun x hx _ => H.out.wat.dk.new (hf1 x hx)⟩
  have HB1 : Hid (Out R R w w1) := Lib.hid (Out.of_below hb1)
  have HO1 := Lib.hid (wl_open g (by decide) HM.out.2 w1 H1.out.wat.dk H1.out.ok H1.out.rr H1.out.cap H1.out.us H1.out.kb (by have := HM.out.1; omega) HC.out H1.out.wat.en H1.out.wat.f6)
  unfold wW at HO1
  clear he1 hf1 hb1
  go_wp2_with fail
  refine HO1.out.mono ?_
  rintro e w2 ⟨g2, Y1, k1, R2, rfl, hy1, hg1, hyf1, hl2, ho2⟩
  have HX2 := Lib.hid (HX1.out.out ho2)
  have HY2 : Hid (RowR w2 R2 1 enc1 Y1 m.texts.length m.texts) := Lib.hid ⟨hy1, fun x hx _ => (hyf1 x hx).2⟩
  have H2 := Lib.hid hl2
  have HB2 := Lib.hid (HB1.out.trans ho2)
  have HL2 := Lib.hid (hl2.wat.dk.listAtR (by have := HM.out.1; omega) hl2.wat.en.hb hl2.wat.en.e.f wW (by decide) (by decide) l HL.out)
  unfold wW at HL2
  clear hy1 hg1 hyf1 hl2 ho2
  go_wp2_with fail
  refine HL2.out.mono ?_
  rintro e w3 ⟨X2, c2, rfl, he2, hf2, hb2⟩
  have H3 := Lib.hid (H2.out.below HC.out hb2)
  have HX23 : Hid (RowR w3 R2 3 encE X2 l.length l) := Lib.hid ⟨he2, fun x hx _ => H2.out.wat.dk.new (hf2 x hx)⟩
  have HB23 : Hid (Out R2 R2 w2 w3) := Lib.hid (Out.of_below hb2)
  have HO2 := Lib.hid (wl_open g2 (by decide) HM.out.2 w3 H3.out.wat.dk H3.out.ok H3.out.rr H3.out.cap H3.out.us H3.out.kb (by have := HM.out.1; omega) HC.out H3.out.wat.en H3.out.wat.f6)
  unfold wW at HO2
  clear he2 hf2 hb2
  go_wp2_with fail
  refine HO2.out.mono ?_
  rintro e w4 ⟨g4, Y2, k2, R4, rfl, hy2, hg2, hyf2, hl4, ho4⟩
  have ho24 := HB23.out.trans ho4
  have HX14 := Lib.hid (HX2.out.out ho24)
  have HY14 := Lib.hid (HY2.out.out ho24)
  have HX24 := Lib.hid (HX23.out.out ho4)
  have HY24 : Hid (RowR w4 R4 1 enc1 Y2 m.texts.length m.texts) := Lib.hid ⟨hy2, fun x hx _ => (hyf2 x hx).2⟩
  have HB4 := Lib.hid (HB2.out.trans ho24)
  have hts : m.texts.length ≤ 1073741824 := by
    have h3 := segs_count m.segs
    obtain ⟨lw, iw, Cw, hrw⟩ := hl4.rr
    have h4 := hrw.used2
    have h5 := hl4.us
    have h6 := hl4.kb
    show (m.segs.flatMap (·.2)).length ≤ _
    omega
  have hls : l.length ≤ 1073741824 := by
    obtain ⟨lw, iw, Cw, hrw⟩ := H.out.rr
    have h2 := hrw.list.2
    have h0 := HL.out
    rw [h0] at h2
    have h3 := congrArg List.length h2
    have h4 := hl4.segL
    simp only [List.length_map] at h3 h4
    omega
  obtain ⟨n, hn⟩ : ∃ n, l.length = n := ⟨_, rfl⟩
  obtain ⟨k, hk⟩ : ∃ k, m.texts.length = k := ⟨_, rfl⟩
  rw [hn] at HX14 HX24 hls ⊢
  rw [hk] at HY14 HY24 hts ⊢
  have HNK := Lib.hid (⟨hls, hts⟩ : _ ∧ _)
  clear hy2 hg2 hyf2 hl4 ho4 ho24 hn hk HX1 HX2 HY2 HX23
  go_wp2_with fail
  go_loopg [63] k (fun gh s63 wr => ∃ i : Nat, i + gh = k ∧ s63 = .int .i64 (i : Int) ∧ Below w4.heap.size w4 wr)
  case atStart => exact ⟨0, by omega, rfl, Below.refl _ _⟩
  case round =>
    obtain ⟨i, hig, rfl, hB⟩ := hrel
    have HIG := Lib.hid hig
    have HB := Lib.hid hB
    clear hig
    by_cases hi : i < k
    · have el : decide ((i : Int) < (k : Int)) = true := by simp; omega
      have e0 : (i : Int) < (k : Int) := by omega
      have e1 : (0 : Int) ≤ (i : Int) := by omega
      obtain ⟨b, off, rfl, hbl, x0⟩ := (Strs.below HY14.out.1 hB).at_ (i := i) hi
      obtain ⟨b2, off2, rfl, hbl2, y0⟩ := (Strs.below HY24.out.1 hB).at_ (i := i) hi
      obtain ⟨X, hX⟩ : ∃ X : ByteArray, (⟨(m.texts[i]!).toArray⟩ : ByteArray) = X := ⟨_, rfl⟩
      have hXv : txtV m.texts[i]! = .string X := by rw [← hX]; rfl
      rw [hXv] at x0 y0
      clear hX hXv
      go_upto_region 10 with fail
      refine wp_region_later (by kernel_rfl) (by kernel_rfl) ?_
      repeat (go_big_quiet_step (fail))
      refine wpQuiet_nil ?_
      rintro w5 ⟨⟨w5, hb5⟩, rfl⟩
      have HB5 := Lib.hid (HB.out.trans (hb5.mono HB.out.size))
      clear hb5 x0 y0
      go_wp2_with fail
      go_roundg (gk - 1)
      case measure => have := HIG.out; omega
      case rel => exact ⟨i + 1, by have := HIG.out; omega, by go_num, HB5.out⟩
    · have el : decide ((i : Int) < (k : Int)) = false := by simp; omega
      have HBW := Lib.hid hB
      clear hB
      go_wp2_with fail
      go_loopg [78] n (fun gh s78 wr => ∃ i : Nat, i + gh = n ∧ s78 = .int .i64 (i : Int) ∧ Below w4.heap.size w4 wr)
      case atStart => exact ⟨0, by omega, rfl, HBW.out⟩
      case round =>
        obtain ⟨i2, hig2, rfl, hB⟩ := hrel
        have HIG2 := Lib.hid hig2
        have HB := Lib.hid hB
        clear hig2
        by_cases hi2 : i2 < n
        · have el2 : decide ((i2 : Int) < (n : Int)) = true := by simp; omega
          have e02 : (i2 : Int) < (n : Int) := by omega
          have e12 : (0 : Int) ≤ (i2 : Int) := by omega
          obtain ⟨b, off, rfl, hbl, x0, x1, x2⟩ := wents_at ((Elems.below HX14.out.1 hB).more hB.size) (i := i2) hi2
          obtain ⟨b2, off2, rfl, hbl2, y0, y1, y2⟩ := wents_at ((Elems.below HX24.out.1 hB).more hB.size) (i := i2) hi2
          obtain ⟨X, hX⟩ : ∃ X : ByteArray, (⟨(l[i2]!.name).toArray⟩ : ByteArray) = X := ⟨_, rfl⟩
          obtain ⟨Db, hD⟩ : ∃ D, l[i2]!.dir = D := ⟨_, rfl⟩
          obtain ⟨Z, hZ⟩ : ∃ Z : Int, (l[i2]!.size : Int) = Z := ⟨_, rfl⟩
          have hXv : txtV l[i2]!.name = .string X := by rw [← hX]; rfl
          rw [hXv] at x0 y0
          rw [hD] at x1 y1
          rw [hZ] at x2 y2
          clear hX hXv hD hZ
          go_upto_region 16 with fail
          refine wp_region_later (by kernel_rfl) (by kernel_rfl) ?_
          repeat (go_big_quiet_step (fail))
          refine wpQuiet_nil ?_
          rintro w5 ⟨⟨w5, hb5⟩, rfl⟩
          have HB5 := Lib.hid (HB.out.trans (hb5.mono HB.out.size))
          clear hb5 x0 y0 x1 y1 x2 y2
          go_wp2_with fail
          go_roundg (gk - 1)
          case measure => have := HIG2.out; omega
          case rel => exact ⟨i2 + 1, by have := HIG2.out; omega, by go_num, HB5.out⟩
        · have el2 : decide ((i2 : Int) < (n : Int)) = false := by simp; omega
          go_wp2_with fail
          go_ret
          exact ⟨rfl, R4, HB4.out.trans (Out.of_below HB.out)⟩
end
end Go.Proofs.YtfpgbhimgfdddaaGreatDoor
