/- Merged: RdkWalksM. -/
import Derived.Test.YtdaidbnbfjgjeaaGreatDoorDsa20
import Derived.Test.YtdaidbnbfjgjeaaGreatDoorDsa21
set_option linter.unusedVariables false
set_option linter.unusedSimpArgs false
/-! ## RdkWalksM -/
/- The walks of layer 3 (disk), the document's: List. -/
namespace Go.Proofs.YtdaidbnbfjgjeaaGreatDoor
open Go.RowKit Go.Shelf Go.Maps Go.Sort
attribute [local go_sem ↓] Go.wp_at_zero Go.wp_at_succ
attribute [local go_sem] Later.cell Later.frozen

def entOf (d : Ds) (dir : Txt) (x : Th) : Option En :=
  if dir = [] then (if (slashAt x.path).isSome then none else some ⟨x.path, x.dir, if x.dir then 0 else (nowAt d x.at_).length⟩)
  else if insideB x.path dir then some ⟨x.path.drop (dir.length + 1), x.dir, if x.dir then 0 else (nowAt d x.at_).length⟩ else none
theorem entD_of (d : Ds) (dir : Txt) : entD d dir = d.things.filterMap (entOf d dir) := rfl
def entsTo (d : Ds) (dir : Txt) (i : Nat) : List En := sortE ((d.things.take i).filterMap (entOf d dir))
theorem entsTo_zero (d : Ds) (dir : Txt) : entsTo d dir 0 = [] := rfl
theorem entsTo_succ {d : Ds} {dir : Txt} {i : Nat} (hi : i < d.things.length) : entsTo d dir (i + 1) = match entOf d dir d.things[i]! with | none => entsTo d dir i | some e => insE e (entsTo d dir i) := by
  unfold entsTo
  rw [List.take_succ_eq_append_getElem hi, List.filterMap_append, getElem!_pos d.things i hi]
  cases h : entOf d dir d.things[i] with
  | none => simp [h]
  | some e =>
    simp only [List.filterMap_cons, h, List.filterMap_nil]
    unfold sortE
    rw [List.foldl_append]
    rfl
theorem entsTo_all {d : Ds} (dir : Txt) {i : Nat} (h : d.things.length ≤ i) : entsTo d dir i = sortE (entD d dir) := by
  unfold entsTo
  rw [List.take_of_length_le h]
  rfl
theorem entsTo_len (d : Ds) (dir : Txt) (i : Nat) : (entsTo d dir i).length ≤ i := by
  unfold entsTo
  rw [(sortE_perm _).length_eq]
  refine Nat.le_trans (List.length_filterMap_le _ _) ?_
  rw [List.length_take]
  omega
def RListOut (w : World) (r : List En × Nat) (e : Ending) (w' : World) : Prop :=
  ∃ v, e = .returned (.tuple #[v, .int .i64 (r.2 : Int)]) ∧ EnRow w' w.heap.size v r.1 ∧ Below w.heap.size w w'
theorem RListOut.none_ (w : World) (k : Nat) : RListOut w ([], k) (.returned (.tuple #[.slice none 0 0, .int .i64 (k : Int)])) w := ⟨_, rfl, World.ownsRow_nil _ _ _ _, Below.refl _ _⟩


section
variable {B0 : Nat} {R : Nat → Nat} {A : RAdr} {d : Ds}
set_option maxRecDepth 100000 in
set_option maxHeartbeats 4000000 in
theorem rlist_root (w : World) (h : RD B0 w R A d) (hf : Fit d) (hnl : ∀ i, (fAt d i).now.length ≤ 1073741824) :
    Calls Tryz.prog 25 #[.pointer (some ⟨A.q, 0, none⟩), .string ⟨#[]⟩] w (RListOut w (listD d [])) := by
  obtain ⟨o, ho⟩ : ∃ o, d.off = o := ⟨_, rfl⟩
  obtain ⟨X, c, hv, hX, hc⟩ := h.things.out
  obtain ⟨q, hq⟩ : ∃ q, A.q = q := ⟨_, rfl⟩
  have htl := hf.tl
  obtain ⟨n, hn⟩ : ∃ n, d.things.length = n := ⟨_, rfl⟩
  have c0 : w.cell? ⟨q, 0, none⟩ = some (.slice X n c) := by rw [← hq, ← hn, ← hv]; exact Blk.cell h.blk 0
  have c5 : w.cell? ⟨q, 5, none⟩ = some (.bool o) := by rw [← hq, ← ho]; exact Blk.cell h.blk 5
  have hql : q < w.heap.size := lt_of_cell c0
  rw [hn] at hX hc htl
  have HX := Lib.hid hX
  have HN := Lib.hid hn
  have HQ := Lib.hid hq
  have HNL := Lib.hid hnl
  have HPZ := Lib.hid (things_short hf)
  obtain ⟨LD, hLD⟩ : ∃ r, listD d [] = r := ⟨_, rfl⟩
  obtain ⟨DIR, hDIR⟩ : ∃ l : Txt, ([] : Txt) = l := ⟨_, rfl⟩
  have hld : LD = if o = true then ([], 1) else (sortE (entD d DIR), 0) := by rw [← hLD, ← hDIR]; unfold listD; rw [ho]; simp
  have HDIR := Lib.hid hDIR
  rw [hLD]
  clear hLD
  have HNM := Lib.hid (fun w => rname_calls ⟨#[]⟩ false (by decide) (by decide) w)
  rw [hq]
  cases o with
  | true =>
    rw [if_pos rfl] at hld
    have hfin : RListOut w LD (.returned (.tuple #[.slice none 0 0, .int .i64 ((1 : Nat) : Int)])) w := by
      rw [hld]
      exact RListOut.none_ w 1
    have HFIN := Lib.hid hfin
    clear hfin
    clear hld hv hX hn hq hDIR hnl ho
    go_enter Tryz.func25, Tryz.ntmps25
    go_wp2_with fail
    refine (HNM.out _).mono ?_
    rintro _ w1 ⟨rfl, rfl⟩
    go_wp2_with fail
    go_ret2
    exact HFIN.out
  | false =>
    rw [if_neg (by decide)] at hld
    have HLD := Lib.hid hld
    clear hld hv hX hn hq hDIR hnl ho
    go_enter Tryz.func25, Tryz.ntmps25
    go_wp2_with fail
    refine (HNM.out _).mono ?_
    rintro _ w1 ⟨rfl, rfl⟩
    go_wp2_with fail
    go_loopg [8, 9] n (fun g s8 s9 wr => ∃ (i : Nat) (v8 : Value), v8 = s8 ∧ i + g = n ∧ s9 = .int .i64 (i : Int) ∧ EnRow wr w.heap.size v8 (entsTo d DIR i) ∧ Below w.heap.size w wr)
    case atStart => exact ⟨0, _, rfl, by omega, rfl, World.ownsRow_nil _ _ _ _, Below.refl _ _⟩
    case round =>
      obtain ⟨i, v8, rfl, hig, rfl, hown, hB⟩ := hrel
      have HIG := Lib.hid hig
      clear hig
      have HO := Lib.hid hown
      have c0' := (hB.cell (p := ⟨q, 0, none⟩) hql).trans c0
      clear hown
      by_cases hi : i < n
      · have hil : i < d.things.length := by rw [HN.out]; exact hi
        have el : decide ((i : Int) < (n : Int)) = true := by simp; omega
        have el' : decide (i < n) = true := by simp; omega
        obtain ⟨b, off, rfl, hbl, k0, k1, k2⟩ := HX.out.at_ hi
        have m0 := (hB.cell (p := ⟨b, off + i * 3, none⟩) hbl).trans k0
        have m1 := (hB.cell (p := ⟨b, off + i * 3 + 1, none⟩) hbl).trans k1
        have m2 := (hB.cell (p := ⟨b, off + i * 3 + 2, none⟩) hbl).trans k2
        have hxz := HPZ.out d.things[i]! (by rw [getElem!_pos d.things i hil]; exact List.getElem_mem hil)
        have hats := hf.tw.ats d.things[i]! (by rw [getElem!_pos d.things i hil]; exact List.getElem_mem hil)
        have hsucc := entsTo_succ (d := d) (dir := DIR) hil
        have hlen := entsTo_len d DIR i
        obtain ⟨x, hx⟩ : ∃ x, d.things[i]! = x := ⟨_, rfl⟩
        rw [hx] at m0 m1 m2 hxz hats hsucc
        obtain ⟨T, hT⟩ : ∃ T : ByteArray, (⟨x.path.toArray⟩ : ByteArray) = T := ⟨_, rfl⟩
        have hT2 : x.path = T.data.toList := by rw [← hT]
        have hTz : T.size ≤ 1073741824 := by rw [← text_size3, ← hT2]; exact hxz
        have hxe : x = ⟨T.data.toList, x.dir, x.at_⟩ := by rw [← hT2]
        unfold txtV at m0
        rw [hT] at m0
        obtain ⟨D, hD⟩ : ∃ D, x.dir = D := ⟨_, rfl⟩
        obtain ⟨z, hz⟩ : ∃ z, x.at_ = z := ⟨_, rfl⟩
        rw [hD, hz] at hxe hats
        rw [hD] at m1
        rw [hz] at m2
        have HXE := Lib.hid hxe
        obtain ⟨ys, hys⟩ : ∃ ys, entsTo d DIR i = ys := ⟨_, rfl⟩
        have hown1 := HO.out
        rw [hys] at hsucc hlen hown1
        have HSU := Lib.hid hsucc
        have hyss : ys.Pairwise LeE := by rw [← hys]; exact sortE_sorted _
        have HYS := Lib.hid hyss
        have HATS := Lib.hid hats
        have HSL := Lib.hid (fun w => rslash_calls T (slashI T.data.toList) rfl hTz w)
        clear k0 k1 k2 hx hT hT2 hD hz hxe hys hsucc hxz hyss hats HO
        go_upto_region 17 with fail
        have hB1 : Below w.heap.size w (wr.alloc (.cells #[.string T, .bool D, .int .i64 (z : Int)] 112)) := hB.alloc hB.size _
        have hx1 : Blk (wr.alloc (.cells #[.string T, .bool D, .int .i64 (z : Int)] 112)) wr.heap.size 112 #[.string T, .bool D, .int .i64 (z : Int)] := Blk.new _ _ _
        have hown2 : EnRow (wr.alloc (.cells #[.string T, .bool D, .int .i64 (z : Int)] 112)) w.heap.size v8 ys := World.ownsRow.alloc hown1 _
        obtain ⟨w1, hw1⟩ : ∃ w1, wr.alloc (.cells #[.string T, .bool D, .int .i64 (z : Int)] 112) = w1 := ⟨_, rfl⟩
        obtain ⟨p, hp⟩ : ∃ p, wr.heap.size = p := ⟨_, rfl⟩
        rw [hw1] at hB1 hx1 hown2 ⊢
        rw [hp] at hx1 ⊢
        have HB1 := Lib.hid hB1
        have HO1 := Lib.hid hown2
        have hRD1 := h.below hB1
        have HR1 := Lib.hid hRD1
        have x0 : _ = some (Value.string T) := hx1.cell 0
        have x1 : _ = some (Value.bool D) := hx1.cell 1
        have x2 : _ = some (Value.int .i64 (z : Int)) := hx1.cell 2
        have hpl := hx1.lt
        have c0'' : w1.cell? ⟨q, 0, none⟩ = _ := (hB1.cell (p := ⟨q, 0, none⟩) hql).trans c0
        clear hw1 hp m0 m1 m2 hB hB1 hx1 hown1 hown2 c0' hRD1
        go_wp2_with fail
        refine (HSL.out _).mono ?_
        rintro _ w3 ⟨rfl, rfl⟩
        have hent0 : entOf d DIR x = if (slashAt T.data.toList).isSome then none else some ⟨T.data.toList, D, if D then 0 else (nowAt d z).length⟩ := by
          rw [HXE.out, ← HDIR.out]; rfl
        cases hs : slashAt T.data.toList with
        | some k =>
          have hk : slashI T.data.toList = (k : Int) := by unfold slashI; rw [hs]
          rw [hk]
          rw [hs] at hent0
          simp only [Option.isSome_some, if_true] at hent0
          have HENT := Lib.hid hent0
          clear hent0 hs hk
          have hown3 : EnRow w1 w.heap.size v8 (entsTo d DIR (i + 1)) := by
            rw [HSU.out, HENT.out]
            exact HO1.out
          go_wp2_with fail
          go_roundg (gk - 1)
          case measure => have := HIG.out; omega
          case rel => exact ⟨i + 1, _, rfl, by have := HIG.out; omega, by go_num, hown3, HB1.out⟩
        | none =>
          have hk : slashI T.data.toList = -1 := by unfold slashI; rw [hs]
          rw [hk]
          rw [hs] at hent0
          simp only [Option.isSome_none, Bool.false_eq_true, if_false] at hent0
          have HENT := Lib.hid hent0
          clear hent0 hs hk
          cases D with
          | true =>
            have hins := rinsert_calls ys T true 0 w.heap.size v8 w1 HO1.out HYS.out (by omega) HB1.out.size
            have HINS := Lib.hid hins
            have hent : entOf d DIR x = some ⟨(T).data.toList, true, 0⟩ := by rw [HENT.out]; rfl
            have HENT2 := Lib.hid hent
            clear hins hent
            go_wp2_with fail
            refine HINS.out.mono ?_
            rintro e w5 ⟨v9, rfl, hr5, hg5⟩
            have hB5 : Below w.heap.size w w5 := by
              have hb1 := HB1.out
              exact hb1.trans ⟨hg5.os, hg5.tape, hg5.output, hg5.size, fun k hk => hg5.block k (by have := hb1.size; omega) (fun e => by have := (World.ownsRow.lt HO1.out k e.symm).1; omega)⟩
            have hown5 : EnRow w5 w.heap.size v9 (entsTo d DIR (i + 1)) := by
              rw [HSU.out, HENT2.out]
              exact hr5
            clear x0 x1 x2 hg5 hr5
            go_wp2_with fail
            go_roundg (gk - 1)
            case measure => have := HIG.out; omega
            case rel => exact ⟨i + 1, _, rfl, by have := HIG.out; omega, by go_num, hown5, hB5⟩
          | false =>
            have hats2 := HATS.out rfl
            obtain ⟨g, c', v, hfv, hRg, hgl, hnc, hv, k0, _, _, _, _⟩ := HR1.out.file_at hats2
            have c3' : w1.cell? ⟨q, 3, none⟩ = some (.slice (some ⟨g, 0, none⟩) d.files.length c') := by rw [← HQ.out, ← hfv]; exact Blk.cell HR1.out.blk 3
            have hfl := hf.fl
            obtain ⟨fl, hfln⟩ : ∃ fl, d.files.length = fl := ⟨_, rfl⟩
            rw [hfln] at c3' hats2 hfl hnc
            have hzin : (z : Int) < (fl : Int) := by omega
            obtain ⟨F, hF⟩ : ∃ F : ByteArray, (⟨(fAt d z).now.toArray⟩ : ByteArray) = F := ⟨_, rfl⟩
            have hFF : (fAt d z).now = F.data.toList := by rw [← hF]
            have hFz : F.size ≤ 1073741824 := by rw [← text_size3, ← hFF]; exact HNL.out z
            rw [hFF, txtV_self] at k0
            have hent : entOf d DIR x = some ⟨(T).data.toList, false, F.size⟩ := by
              rw [HENT.out]
              have e1 : nowAt d z = F.data.toList := hFF
              simp only [Bool.false_eq_true, if_false]
              rw [e1, text_size3]
            have HENT2 := Lib.hid hent
            have hqr : q < w1.heap.size := lt_of_cell c0''
            clear hent hfv hv hF hFF hfln
            go_upto_region 26 with fail
            refine wp_region_later (by kernel_rfl) (by kernel_rfl) ?_
            repeat (go_big_quiet_step (fail))
            refine wpQuiet_nil ?_
            rintro w4 ⟨⟨_, hb4⟩, rfl⟩
            have hins := rinsert_calls ys T false F.size w.heap.size v8 w4 (own_below2 HO1.out hb4) HYS.out (by omega) (Nat.le_trans HB1.out.size hb4.size)
            have HINS := Lib.hid hins
            have y0 : w4.cell? ⟨p, 0, none⟩ = some (.string T) := (hb4.cell (p := ⟨p, 0, none⟩) hpl).trans x0
            have y1 : w4.cell? ⟨p, 1, none⟩ = some (.bool false) := (hb4.cell (p := ⟨p, 1, none⟩) hpl).trans x1
            have hpl4 : p < w4.heap.size := lt_of_cell y0
            have HB4 := Lib.hid (HB1.out.trans (hb4.mono HB1.out.size))
            have HO4 := Lib.hid (own_below2 HO1.out hb4)
            clear hins hb4 x0 x1 x2 c3' k0
            go_wp2_with fail
            refine HINS.out.mono ?_
            rintro e w5 ⟨v9, rfl, hr5, hg5⟩
            have hB5 : Below w.heap.size w w5 := by
              have hb1 := HB4.out
              exact hb1.trans ⟨hg5.os, hg5.tape, hg5.output, hg5.size, fun k hk => hg5.block k (by have := hb1.size; omega) (fun e => by have := (World.ownsRow.lt HO4.out k e.symm).1; omega)⟩
            have hown5 : EnRow w5 w.heap.size v9 (entsTo d DIR (i + 1)) := by
              rw [HSU.out, HENT2.out]
              exact hr5
            clear hg5 hr5 y0 y1
            go_wp2_with fail
            go_roundg (gk - 1)
            case measure => have := HIG.out; omega
            case rel => exact ⟨i + 1, _, rfl, by have := HIG.out; omega, by go_num, hown5, hB5⟩
      · have el : decide ((i : Int) < (n : Int)) = false := by simp; omega
        have el' : decide (i < n) = false := by simp; omega
        have hfin : RListOut w LD (.returned (.tuple #[v8, .int .i64 0])) wr := by
          rw [HLD.out]
          refine ⟨v8, rfl, ?_, hB⟩
          have := HO.out
          rw [entsTo_all DIR (by rw [HN.out]; omega)] at this
          exact this
        have HFIN := Lib.hid hfin
        clear hfin hB
        go_wp2_with fail
        go_ret2
        exact HFIN.out

set_option maxRecDepth 100000 in
set_option maxHeartbeats 4000000 in
theorem rlist_dir (S : ByteArray) (hS0 : S.data.toList ≠ []) (w : World) (h : RD B0 w R A d) (hf : Fit d) (hS : S.size ≤ 1073741824) (hnl : ∀ i, (fAt d i).now.length ≤ 1073741824) :
    Calls Tryz.prog 25 #[.pointer (some ⟨A.q, 0, none⟩), .string S] w (RListOut w (listD d S.data.toList)) := by
  obtain ⟨o, ho⟩ : ∃ o, d.off = o := ⟨_, rfl⟩
  obtain ⟨nb, hnb⟩ : ∃ b, nameB S.data.toList = b := ⟨_, rfl⟩
  obtain ⟨k, hk⟩ : ∃ k, isT d.things S.data.toList = k := ⟨_, rfl⟩
  have hk3 := isT_range d.things S.data.toList
  rw [hk] at hk3
  obtain ⟨X, c, hv, hX, hc⟩ := h.things.out
  obtain ⟨q, hq⟩ : ∃ q, A.q = q := ⟨_, rfl⟩
  have htl := hf.tl
  have HIS := Lib.hid (ris_calls S k hk w h (Nat.le_trans hf.tl (by decide)))
  have HNM := Lib.hid (fun w => rname_calls S nb hnb hS w)
  obtain ⟨n, hn⟩ : ∃ n, d.things.length = n := ⟨_, rfl⟩
  have c0 : w.cell? ⟨q, 0, none⟩ = some (.slice X n c) := by rw [← hq, ← hn, ← hv]; exact Blk.cell h.blk 0
  have c5 : w.cell? ⟨q, 5, none⟩ = some (.bool o) := by rw [← hq, ← ho]; exact Blk.cell h.blk 5
  have hql : q < w.heap.size := lt_of_cell c0
  rw [hn] at hX hc htl
  have HX := Lib.hid hX
  have HN := Lib.hid hn
  have HQ := Lib.hid hq
  have HNL := Lib.hid hnl
  have HPZ := Lib.hid (things_short hf)
  obtain ⟨LD, hLD⟩ : ∃ r, listD d S.data.toList = r := ⟨_, rfl⟩
  obtain ⟨DIR, hDIR⟩ : ∃ l : Txt, S.data.toList = l := ⟨_, rfl⟩
  have hld : LD = if o = true then ([], 1) else if nb = false then ([], 2) else if k = 1 then ([], 3) else if k = 0 then ([], 4) else (sortE (entD d DIR), 0) := by
    rw [← hLD, ← hDIR]
    unfold listD
    rw [ho, hnb, hk]
    simp only [ne_eq, hS0, not_false_eq_true, true_and]
  have HDIR := Lib.hid hDIR
  have HLE := Lib.hid hld
  have HS0 := Lib.hid hS0
  have HK3 := Lib.hid hk3
  have hz0 : 0 < S.size := by
    rcases Nat.eq_zero_or_pos S.size with h0 | h0
    · exact absurd (List.eq_nil_of_length_eq_zero (by rw [text_size3]; exact h0)) hS0
    · exact h0
  have hSne : S ≠ ⟨#[]⟩ := fun e => hS0 (by rw [e])
  obtain ⟨s1, s2, s3, s4⟩ := ne_facts hSne
  have s5 : S.toList.isEmpty = false := by rw [empty_size3]; exact decide_eq_false (by omega)
  have s6 : S.toList ≠ [] := fun e => by rw [e] at s5; simp at s5
  have s7 : decide (S.toList = []) = false := by simpa using s6
  rw [hLD]
  rw [hq] at HIS ⊢
  clear hld hv hX hn hq hDIR hnl ho hnb hk hk3 hLD hS0 hSne s6
  go_enter Tryz.func25, Tryz.ntmps25
  go_wp2_with fail
  refine (HNM.out _).mono ?_
  rintro _ w1 ⟨rfl, rfl⟩
  cases o with
  | true =>
    have hfin : RListOut w LD (.returned (.tuple #[.slice none 0 0, .int .i64 ((1 : Nat) : Int)])) w := by rw [HLE.out, if_pos rfl]; exact RListOut.none_ w 1
    have HFIN := Lib.hid hfin
    clear hfin
    go_wp2_with fail
    go_ret2
    exact HFIN.out
  | false =>
    cases nb with
    | false =>
      have hfin : RListOut w LD (.returned (.tuple #[.slice none 0 0, .int .i64 ((2 : Nat) : Int)])) w := by rw [HLE.out, if_neg (by decide), if_pos rfl]; exact RListOut.none_ w 2
      have HFIN := Lib.hid hfin
      clear hfin
      go_wp2_with fail
      go_ret2
      exact HFIN.out
    | true =>
      go_wp2_with fail
      refine HIS.out.mono ?_
      rintro _ w1 ⟨rfl, rfl⟩
      rcases HK3.out with rfl | rfl | rfl
      · have hfin : RListOut w LD (.returned (.tuple #[.slice none 0 0, .int .i64 ((4 : Nat) : Int)])) w := by rw [HLE.out, if_neg (by decide), if_neg (by decide), if_neg (by decide), if_pos rfl]; exact RListOut.none_ w 4
        have HFIN := Lib.hid hfin
        clear hfin
        go_wp2_with fail
        go_ret2
        exact HFIN.out
      · have hfin : RListOut w LD (.returned (.tuple #[.slice none 0 0, .int .i64 ((3 : Nat) : Int)])) w := by rw [HLE.out, if_neg (by decide), if_neg (by decide), if_pos rfl]; exact RListOut.none_ w 3
        have HFIN := Lib.hid hfin
        clear hfin
        go_wp2_with fail
        go_ret2
        exact HFIN.out
      · have hld : LD = (sortE (entD d DIR), 0) := by rw [HLE.out, if_neg (by decide), if_neg (by decide), if_neg (by decide), if_neg (by decide)]
        have HLD := Lib.hid hld
        clear hld
        go_wp2_with fail
        go_loopg [8, 9] n (fun g s8 s9 wr => ∃ (i : Nat) (v8 : Value), v8 = s8 ∧ i + g = n ∧ s9 = .int .i64 (i : Int) ∧ EnRow wr w.heap.size v8 (entsTo d DIR i) ∧ Below w.heap.size w wr)
        case atStart => exact ⟨0, _, rfl, by omega, rfl, World.ownsRow_nil _ _ _ _, Below.refl _ _⟩
        case round =>
          obtain ⟨i, v8, rfl, hig, rfl, hown, hB⟩ := hrel
          have HIG := Lib.hid hig
          clear hig
          have HO := Lib.hid hown
          have c0' := (hB.cell (p := ⟨q, 0, none⟩) hql).trans c0
          clear hown
          by_cases hi : i < n
          · have hil : i < d.things.length := by rw [HN.out]; exact hi
            have el : decide ((i : Int) < (n : Int)) = true := by simp; omega
            have el' : decide (i < n) = true := by simp; omega
            obtain ⟨b, off, rfl, hbl, k0, k1, k2⟩ := HX.out.at_ hi
            have m0 := (hB.cell (p := ⟨b, off + i * 3, none⟩) hbl).trans k0
            have m1 := (hB.cell (p := ⟨b, off + i * 3 + 1, none⟩) hbl).trans k1
            have m2 := (hB.cell (p := ⟨b, off + i * 3 + 2, none⟩) hbl).trans k2
            have hxz := HPZ.out d.things[i]! (by rw [getElem!_pos d.things i hil]; exact List.getElem_mem hil)
            have hats := hf.tw.ats d.things[i]! (by rw [getElem!_pos d.things i hil]; exact List.getElem_mem hil)
            have hsucc := entsTo_succ (d := d) (dir := DIR) hil
            have hlen := entsTo_len d DIR i
            obtain ⟨x, hx⟩ : ∃ x, d.things[i]! = x := ⟨_, rfl⟩
            rw [hx] at m0 m1 m2 hxz hats hsucc
            obtain ⟨T, hT⟩ : ∃ T : ByteArray, (⟨x.path.toArray⟩ : ByteArray) = T := ⟨_, rfl⟩
            have hT2 : x.path = T.data.toList := by rw [← hT]
            have hTz : T.size ≤ 1073741824 := by rw [← text_size3, ← hT2]; exact hxz
            have hxe : x = ⟨T.data.toList, x.dir, x.at_⟩ := by rw [← hT2]
            unfold txtV at m0
            rw [hT] at m0
            obtain ⟨D, hD⟩ : ∃ D, x.dir = D := ⟨_, rfl⟩
            obtain ⟨z, hz⟩ : ∃ z, x.at_ = z := ⟨_, rfl⟩
            rw [hD, hz] at hxe hats
            rw [hD] at m1
            rw [hz] at m2
            have HXE := Lib.hid hxe
            obtain ⟨ys, hys⟩ : ∃ ys, entsTo d DIR i = ys := ⟨_, rfl⟩
            have hown1 := HO.out
            rw [hys] at hsucc hlen hown1
            have HSU := Lib.hid hsucc
            have hyss : ys.Pairwise LeE := by rw [← hys]; exact sortE_sorted _
            have HYS := Lib.hid hyss
            have HATS := Lib.hid hats
            have HSL := Lib.hid (fun w => rslash_calls T (slashI T.data.toList) rfl hTz w)
            clear k0 k1 k2 hx hT hT2 hD hz hxe hys hsucc hxz hyss hats HO
            go_upto_region 17 with fail
            have hB1 : Below w.heap.size w (wr.alloc (.cells #[.string T, .bool D, .int .i64 (z : Int)] 112)) := hB.alloc hB.size _
            have hx1 : Blk (wr.alloc (.cells #[.string T, .bool D, .int .i64 (z : Int)] 112)) wr.heap.size 112 #[.string T, .bool D, .int .i64 (z : Int)] := Blk.new _ _ _
            have hown2 : EnRow (wr.alloc (.cells #[.string T, .bool D, .int .i64 (z : Int)] 112)) w.heap.size v8 ys := World.ownsRow.alloc hown1 _
            obtain ⟨w1, hw1⟩ : ∃ w1, wr.alloc (.cells #[.string T, .bool D, .int .i64 (z : Int)] 112) = w1 := ⟨_, rfl⟩
            obtain ⟨p, hp⟩ : ∃ p, wr.heap.size = p := ⟨_, rfl⟩
            rw [hw1] at hB1 hx1 hown2 ⊢
            rw [hp] at hx1 ⊢
            have HB1 := Lib.hid hB1
            have HO1 := Lib.hid hown2
            have hRD1 := h.below hB1
            have HR1 := Lib.hid hRD1
            have x0 : _ = some (Value.string T) := hx1.cell 0
            have x1 : _ = some (Value.bool D) := hx1.cell 1
            have x2 : _ = some (Value.int .i64 (z : Int)) := hx1.cell 2
            have hpl := hx1.lt
            have c0'' : w1.cell? ⟨q, 0, none⟩ = _ := (hB1.cell (p := ⟨q, 0, none⟩) hql).trans c0
            clear hw1 hp m0 m1 m2 hB hB1 hx1 hown1 hown2 c0' hRD1
            go_wp2_with fail
            refine (HSL.out _).mono ?_
            rintro _ w3 ⟨rfl, rfl⟩
            obtain ⟨ins, hins⟩ : ∃ b, insideB T.data.toList S.data.toList = b := ⟨_, rfl⟩
            have hent0 : entOf d DIR x = if ins = true then some ⟨T.data.toList.drop (S.data.toList.length + 1), D, if D then 0 else (nowAt d z).length⟩ else none := by
              rw [HXE.out, ← HDIR.out]
              unfold entOf
              rw [if_neg HS0.out]
              simp only []
              rw [hins]
            have HIN := Lib.hid (fun w => rinside_calls T S ins hins w hTz hS)
            have HINS := Lib.hid hins
            have HE0 := Lib.hid hent0
            clear hent0 hins
            cases ins with
            | false =>
              have hent0 := HE0.out
              rw [if_neg (by decide)] at hent0
              have HENT := Lib.hid hent0
              clear hent0
              go_wp2_with fail
              refine (HIN.out _).mono ?_
              rintro _ w3 ⟨rfl, rfl⟩
              have hown3 : EnRow w1 w.heap.size v8 (entsTo d DIR (i + 1)) := by
                rw [HSU.out, HENT.out]
                exact HO1.out
              go_wp2_with fail
              go_roundg (gk - 1)
              case measure => have := HIG.out; omega
              case rel => exact ⟨i + 1, _, rfl, by have := HIG.out; omega, by go_num, hown3, HB1.out⟩
            | true =>
              have hent0 := HE0.out
              rw [if_pos rfl] at hent0
              have hST : S.size + 1 ≤ T.size := by
                obtain ⟨r, hr⟩ := inside_iff.1 HINS.out
                have := congrArg List.length hr
                simp only [List.length_append, text_size3, List.length_singleton] at this
                omega
              obtain ⟨V, hV⟩ : ∃ V, T.extract (S.size + 1) T.size = V := ⟨_, rfl⟩
              have hVV : T.data.toList.drop (S.data.toList.length + 1) = V.data.toList := by rw [← hV, drop_bytes]; rfl
              rw [hVV] at hent0
              have HENT := Lib.hid hent0
              have HV := Lib.hid hV
              clear hent0 hV hVV
              go_wp2_with fail
              refine (HIN.out _).mono ?_
              rintro _ w3 ⟨rfl, rfl⟩
              go_upto_region 24 with fail
              rw [HV.out]
              cases D with
              | true =>
                have hins := rinsert_calls ys V true 0 w.heap.size v8 w1 HO1.out HYS.out (by omega) HB1.out.size
                have HINS := Lib.hid hins
                have hent : entOf d DIR x = some ⟨(V).data.toList, true, 0⟩ := by rw [HENT.out]; rfl
                have HENT2 := Lib.hid hent
                clear hins hent
                go_wp2_with fail
                refine HINS.out.mono ?_
                rintro e w5 ⟨v9, rfl, hr5, hg5⟩
                have hB5 : Below w.heap.size w w5 := by
                  have hb1 := HB1.out
                  exact hb1.trans ⟨hg5.os, hg5.tape, hg5.output, hg5.size, fun k hk => hg5.block k (by have := hb1.size; omega) (fun e => by have := (World.ownsRow.lt HO1.out k e.symm).1; omega)⟩
                have hown5 : EnRow w5 w.heap.size v9 (entsTo d DIR (i + 1)) := by
                  rw [HSU.out, HENT2.out]
                  exact hr5
                clear x0 x1 x2 hg5 hr5
                go_wp2_with fail
                go_roundg (gk - 1)
                case measure => have := HIG.out; omega
                case rel => exact ⟨i + 1, _, rfl, by have := HIG.out; omega, by go_num, hown5, hB5⟩
              | false =>
                have hats2 := HATS.out rfl
                obtain ⟨g, c', v, hfv, hRg, hgl, hnc, hv, k0, _, _, _, _⟩ := HR1.out.file_at hats2
                have c3' : w1.cell? ⟨q, 3, none⟩ = some (.slice (some ⟨g, 0, none⟩) d.files.length c') := by rw [← HQ.out, ← hfv]; exact Blk.cell HR1.out.blk 3
                have hfl := hf.fl
                obtain ⟨fl, hfln⟩ : ∃ fl, d.files.length = fl := ⟨_, rfl⟩
                rw [hfln] at c3' hats2 hfl hnc
                have hzin : (z : Int) < (fl : Int) := by omega
                obtain ⟨F, hF⟩ : ∃ F : ByteArray, (⟨(fAt d z).now.toArray⟩ : ByteArray) = F := ⟨_, rfl⟩
                have hFF : (fAt d z).now = F.data.toList := by rw [← hF]
                have hFz : F.size ≤ 1073741824 := by rw [← text_size3, ← hFF]; exact HNL.out z
                rw [hFF, txtV_self] at k0
                have hent : entOf d DIR x = some ⟨(V).data.toList, false, F.size⟩ := by
                  rw [HENT.out]
                  have e1 : nowAt d z = F.data.toList := hFF
                  simp only [Bool.false_eq_true, if_false]
                  rw [e1, text_size3]
                have HENT2 := Lib.hid hent
                have hqr : q < w1.heap.size := lt_of_cell c0''
                clear hent hfv hv hF hFF hfln
                go_upto_region 26 with fail
                refine wp_region_later (by kernel_rfl) (by kernel_rfl) ?_
                repeat (go_big_quiet_step (fail))
                refine wpQuiet_nil ?_
                rintro w4 ⟨⟨_, hb4⟩, rfl⟩
                have hins := rinsert_calls ys V false F.size w.heap.size v8 w4 (own_below2 HO1.out hb4) HYS.out (by omega) (Nat.le_trans HB1.out.size hb4.size)
                have HINS := Lib.hid hins
                have y0 : w4.cell? ⟨p, 0, none⟩ = some (.string T) := (hb4.cell (p := ⟨p, 0, none⟩) hpl).trans x0
                have y1 : w4.cell? ⟨p, 1, none⟩ = some (.bool false) := (hb4.cell (p := ⟨p, 1, none⟩) hpl).trans x1
                have hpl4 : p < w4.heap.size := lt_of_cell y0
                have HB4 := Lib.hid (HB1.out.trans (hb4.mono HB1.out.size))
                have HO4 := Lib.hid (own_below2 HO1.out hb4)
                clear hins hb4 x0 x1 x2 c3' k0
                go_wp2_with fail
                refine HINS.out.mono ?_
                rintro e w5 ⟨v9, rfl, hr5, hg5⟩
                have hB5 : Below w.heap.size w w5 := by
                  have hb1 := HB4.out
                  exact hb1.trans ⟨hg5.os, hg5.tape, hg5.output, hg5.size, fun k hk => hg5.block k (by have := hb1.size; omega) (fun e => by have := (World.ownsRow.lt HO4.out k e.symm).1; omega)⟩
                have hown5 : EnRow w5 w.heap.size v9 (entsTo d DIR (i + 1)) := by
                  rw [HSU.out, HENT2.out]
                  exact hr5
                clear hg5 hr5 y0 y1
                go_wp2_with fail
                go_roundg (gk - 1)
                case measure => have := HIG.out; omega
                case rel => exact ⟨i + 1, _, rfl, by have := HIG.out; omega, by go_num, hown5, hB5⟩
          · have el : decide ((i : Int) < (n : Int)) = false := by simp; omega
            have el' : decide (i < n) = false := by simp; omega
            have hfin : RListOut w LD (.returned (.tuple #[v8, .int .i64 0])) wr := by
              rw [HLD.out]
              refine ⟨v8, rfl, ?_, hB⟩
              have := HO.out
              rw [entsTo_all DIR (by rw [HN.out]; omega)] at this
              exact this
            have HFIN := Lib.hid hfin
            clear hfin hB
            go_wp2_with fail
            go_ret2
            exact HFIN.out
end
end Go.Proofs.YtdaidbnbfjgjeaaGreatDoor
