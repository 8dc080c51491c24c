/- SymbolsBack: what the statement's function computes is true. -/
import Derived.Test.YtpmahljbkgielaaBackWalks
import Derived.Test.YtpmahljbkgielaaSymWalksD
namespace Go.Proofs.Ytpmahljbkgielaa
open Go.RowKit Go.Sort
attribute [local go_sem ↓] Go.wp_at_zero Go.wp_at_succ
attribute [local go_sem] Later.cell Later.frozen
theorem info_labs : (Try.prog.info? 36).map (fun i => (i.zero, i.size, i.bytes)) = some (some (.slice none 0 0), 1, 24) := by kernel_rfl

def fitL (L : List (List Lb)) : List (List Lb) := L.filter validB
theorem fitL_take {L : List (List Lb)} {i : Nat} (h : i < L.length) : fitL (L.take (i + 1)) = fitL (L.take i) ++ if validB L[i]! then [L[i]!] else [] := by
  unfold fitL
  rw [List.take_succ_eq_append_getElem h, List.filter_append, getElem!_pos L i h]
  by_cases hv : validB L[i] <;> simp [hv, List.filter_cons]
theorem fitL_ok {L : List (List Lb)} {l : List Lb} (h : l ∈ fitL L) : encErr l = 0 ∧ l ∈ L := by
  obtain ⟨h1, h2⟩ := List.mem_filter.1 h
  refine ⟨?_, h1⟩
  rcases encErr_cases l with ⟨a, b⟩ | ⟨_, b, _⟩ | ⟨_, _, c⟩
  · simp [validB, a] at h2
  · rw [b] at h2; cases h2
  · exact c
theorem fitL_allT {L : List (List Lb)} : (allT (fitL L)).length ≤ (allT L).length ∧ ∀ x ∈ allT (fitL L), x ∈ allT L := by
  constructor
  · induction L with
    | nil => simp [fitL]
    | cons l L ih =>
      unfold fitL at *
      rw [List.filter_cons]
      split
      · rw [allT_cons, allT_cons, List.length_append, List.length_append]; omega
      · rw [allT_cons, List.length_append]; omega
  · intro x hx
    obtain ⟨l, hl, h⟩ := List.mem_flatMap.1 hx
    exact List.mem_flatMap.2 ⟨l, (fitL_ok hl).2, h⟩

set_option maxRecDepth 100000 in
set_option maxHeartbeats 4000000 in
theorem symbolsBack_calls (L : List (List Lb)) (A : Option Addr) (n c : Nat) (w : World) (hS : Sets w A n L) (hn : n ≤ 1048576) (hall : (allT L).length ≤ 1048576) (hz : ∀ x ∈ allT L, x.length ≤ 1048576) :
    Calls Try.prog 7 #[.slice A n c] w fun e w' => e = .returned (.bool true) ∧ Below w.heap.size w w' := by
  obtain ⟨i0, hi0, hz0, hz1, hz2⟩ := info_parts info_labs
  have hL := hS.len
  have HL := Lib.hid hL
  have HZ := Lib.hid hz
  clear hL hz
  go_enter Try.func7, Try.ntmps7
  go_wp2_with fail
  refine (wakes05_calls w).mono ?_
  rintro _ w1 ⟨rfl, hb1⟩
  have hS1 := hS.below hb1
  have hb1' := hb1.size
  go_upto_block 0 with fail
  go_cut [3] (fun s3 wz => ∃ A3 m c3, s3 = .slice A3 m c3 ∧ Sets wz A3 m (fitL L) ∧ m ≤ n ∧ Below w1.heap.size w1 wz)
  case first =>
    go_wp2_with fail
    go_loopg [3, 25] n (fun g s3 s25 wr => ∃ (i k : Nat) (v3 : Value) (hs : List Hd), v3 = s3 ∧ i + g = n ∧ k ≤ i ∧ s25 = .int .i64 (i : Int) ∧ hs.length = k ∧ (fitL (L.take i)).length = k ∧ wr.ownsRow w1.heap.size 36 1 v3 k (hs.flatMap encH) ∧ (∀ (j : Nat) (h : Hd) (l : List Lb), hs[j]? = some h → (fitL (L.take i))[j]? = some l → Elems w1 w1.heap.size 2 encLb h.A h.n l ∧ h.n ≤ h.c) ∧ Below w1.heap.size w1 wr)
    case atStart => exact ⟨0, 0, _, [], rfl, by omega, Nat.le_refl _, rfl, rfl, rfl, World.ownsRow_nil _ _ _ _, (fun j h l e => by simp at e), Below.refl _ _⟩
    case round =>
      obtain ⟨i, k, v3, hs, rfl, hig, hki, rfl, hsl, hfl, hown, hels, hB⟩ := hrel
      have HIG := Lib.hid hig
      have HSL := Lib.hid hsl
      have HFL := Lib.hid hfl
      have HELS := Lib.hid hels
      clear hsl hels hfl
      by_cases hi : i < n
      · have el : decide ((i : Int) < (n : Int)) = true := by simp; omega
        have el' : decide (i < n) = true := by simp; omega
        clear hig
        have hiL : i < L.length := by have := HL.out; omega
        obtain ⟨b, off, C, m, d, rfl, hbl, hcell, hE, hmd⟩ := hS1.at_ hi
        have hcr := (hB.cell (p := ⟨b, off + i, none⟩) hbl).trans hcell
        have hpart := allT_part hiL
        have hft := fitL_take hiL
        have hmem := fun q hq => allT_mem (L := L) (i := i) (k := q) hiL hq
        obtain ⟨l, hl⟩ : ∃ l, L[i]! = l := ⟨_, rfl⟩
        rw [hl] at hE hpart hft hmem
        have hll := hE.len
        rw [texts_len, hll] at hpart
        have hlz : ∀ x ∈ l, x.n.length ≤ 140737488351232 ∧ x.v.length ≤ 140737488351232 := by
          intro x hx
          obtain ⟨q, hq, e⟩ := List.getElem_of_mem hx
          obtain ⟨h1, h2⟩ := hmem q hq
          rw [getElem!_pos l q hq, e] at h1 h2
          have := HZ.out _ h1
          have := HZ.out _ h2
          omega
        have hE1 : Elems wr wr.heap.size 2 encLb C m l := (hE.below hB).more hB.size
        obtain ⟨r, hr⟩ : ∃ r, validB l = r := ⟨_, rfl⟩
        rw [hr] at hft
        have hv := valid_calls l C m d wr r hr hE1 hmd (by omega) hlz
        have HV := Lib.hid hv
        have HFT := Lib.hid hft
        have HE := Lib.hid hE
        clear hl hll hcell hft hmem hlz hE1 hr hv hE
        go_wp2_with fail
        refine HV.out.mono ?_
        rintro _ w2 ⟨rfl, hb2⟩
        have hB2 := then_ hB hb2
        have hown2 := own_later5 hown hb2
        have hbs2 := hB2.size
        clear hcr hown HV
        cases r with
        | true =>
          go_wp2_with (at_builtin; refine wpList_append_own_at _ rfl _ _ 45 rfl w1.heap.size 36 i0 (.slice none 0 0) 1 24 Try.underlying45 hi0 hz0 hz1 hz2 rfl (by decide) _ _ _ rfl (hown2.alloc _) ⟨w2.heap.size, 0, none⟩ 1 1 [.slice C m d] rfl rfl ?p1 ?p2 ?p3 ?p4 ?p5 ?_)
          case p1 => exact news_of_blk (l := [.slice C m d]) (Blk.new w2 _ _)
          case p2 => intro u hu; rw [List.mem_singleton.1 hu]; rfl
          case p3 => unfold maxLen; omega
          case p4 => omega
          case p5 => simp; omega
          intro v' w4 hown' hgrow _ _
          have hB4 : Below w1.heap.size w1 w4 := own_below hB2 hB2.size hown2 hgrow
          have hown4 : w4.ownsRow w1.heap.size 36 1 v' (k + 1) ((hs ++ ([⟨C, m, d⟩] : List Hd)).flatMap encH) := by
            rw [List.flatMap_append]
            exact hown'
          have hels4 : ∀ (j : Nat) (h : Hd) (l' : List Lb), (hs ++ ([⟨C, m, d⟩] : List Hd))[j]? = some h → (fitL (L.take (i + 1)))[j]? = some l' → Elems w1 w1.heap.size 2 encLb h.A h.n l' ∧ h.n ≤ h.c := by
            intro j h l' hj hl'
            rw [HFT.out] at hl'
            simp only [if_true] at hl'
            rw [List.getElem?_append] at hj hl'
            rw [HSL.out] at hj
            rw [HFL.out] at hl'
            split at hj
            · rename_i hjk
              rw [if_pos hjk] at hl'
              exact HELS.out j h l' hj hl'
            · rename_i hjk
              rw [if_neg hjk] at hl'
              have hj0 : j - k = 0 := by
                apply Classical.byContradiction
                intro hne
                rw [List.getElem?_eq_none (by simp; omega)] at hj
                cases hj
              rw [hj0] at hj hl'
              simp at hj hl'
              subst hj hl'
              exact ⟨HE.out, hmd⟩
          have HELS4 := Lib.hid hels4
          clear hown' hgrow hels4 hown2
          go_wp2_with fail
          go_roundg (gk - 1)
          case measure => have := HIG.out; omega
          case rel => exact ⟨i + 1, k + 1, _, _, rfl, by have := HIG.out; omega, by omega, by go_num, by rw [List.length_append, HSL.out]; rfl, by rw [HFT.out, List.length_append, HFL.out]; rfl, hown4, HELS4.out, hB4⟩
        | false =>
          go_wp2_with fail
          go_roundg (gk - 1)
          case measure => have := HIG.out; omega
          case rel => exact ⟨i + 1, k, _, _, rfl, by have := HIG.out; omega, by omega, by go_num, HSL.out, by rw [HFT.out]; simpa using HFL.out, hown2, (fun j h l' hj hl' => HELS.out j h l' hj (by rw [HFT.out] at hl'; simpa using hl')), hB2⟩
      · have el : decide ((i : Int) < (n : Int)) = false := by simp; omega
        have el' : decide (i < n) = false := by simp; omega
        have htk : L.take i = L := List.take_of_length_le (by have := HL.out; omega)
        obtain ⟨A', c', rfl, hE', _, hc'⟩ := Elems.of_own (enc := encH) (fun x _ => rfl) rfl hown HSL.out
        have hels := HELS.out
        have hfl := HFL.out
        rw [htk] at hels hfl
        have hsets : Sets wr A' k (fitL L) := ⟨hs, hE', hfl, fun j h hj => by
          have hjl : j < (fitL L).length := by have := (List.getElem?_eq_some_iff.1 hj).1; have := HSL.out; omega
          obtain ⟨a1, a2⟩ := hels j h _ hj (List.getElem?_eq_getElem hjl)
          rw [getElem!_pos _ j hjl]
          exact ⟨(a1.below hB).more hB.size, a2⟩⟩
        clear htk hels hfl hown
        go_wp2_with fail
        go_meet
        exact ⟨A', k, c', rfl, hsets, by omega, hB⟩
  case rest =>
    obtain ⟨A3, m, c3, rfl, hsets, hmn, hbz⟩ := hcut
    obtain ⟨w2, rfl⟩ : ∃ x, x = wc := ⟨_, rfl⟩
    have hB2 := then_ hb1 hbz
    obtain ⟨hfa1, hfa2⟩ := fitL_allT (L := L)
    have hok : ∀ l ∈ fitL L, encErr l = 0 := fun l hl => (fitL_ok hl).1
    have hfz : ∀ x ∈ allT (fitL L), x.length ≤ 1048576 := fun x hx => HZ.out x (hfa2 x hx)
    obtain ⟨F, hF⟩ : ∃ F, fitL L = F := ⟨_, rfl⟩
    rw [hF] at hfa1 hok hfz hsets
    have hFl := hsets.len
    have HOK := Lib.hid hok
    have HFZ := Lib.hid hfz
    have HFL := Lib.hid hFl
    clear hfa2 hok hfz hF hFl hbz hb1
    go_wp2_with fail
    refine (collect_calls F A3 m c3 w2 hsets (by omega) (by omega) HFZ.out).mono ?_
    rintro _ w3 ⟨p, t, rfl, htab3, hist, htl, hb3, _⟩
    have hB3 := then_ hB2 hb3
    have hsets3 := hsets.below hb3
    have hasc := hist.1
    have htz : ∀ x ∈ t, x.length ≤ 1048576 := fun x hx => HFZ.out x ((hist.2 x).1 hx)
    have htm : ∀ l ∈ F, ∀ x ∈ texts l, x ∈ t := fun l hl x hx => (hist.2 x).2 (List.mem_flatMap.2 ⟨l, hl, hx⟩)
    have htl2 : t.length ≤ 1048576 := by omega
    have htb := tabT_len t 1048576 htz
    have htb2 : (tabT t).length ≤ 140737488351232 := by
      have : (1048576 + 11) * t.length ≤ (1048576 + 11) * 1048576 := Nat.mul_le_mul_left _ htl2
      omega
    have HTZ := Lib.hid htz
    have HTM := Lib.hid htm
    clear hsets hB2 hb3 hist htl htz htm htb
    have henc := symencode_calls _ t w3 htab3 (by omega) htb2
    obtain ⟨S, hS'⟩ : ∃ S : ByteArray, (⟨(tabT t).toArray⟩ : ByteArray) = S := ⟨_, rfl⟩
    rw [hS'] at henc
    have hSS : S.data.toList = tabT t := by rw [← hS']
    have hSz : S.size ≤ 140737488351232 := by rw [← text_size, hSS]; exact htb2
    have HENC := Lib.hid henc
    have HSS := Lib.hid hSS
    clear henc hS' hSS htb2
    go_wp2_with fail
    refine HENC.out.mono ?_
    rintro _ w4 ⟨rfl, hb4⟩
    have hB4 := then_ hB3 hb4
    have hsets4 := hsets3.below hb4
    have htab4 := htab3.below hb4
    clear hB3 hb4 hsets3 htab3 HENC
    go_wp2_with fail
    refine (decode_calls t w4 S HSS.out hasc (by omega) HTZ.out hSz).mono ?_
    rintro _ w5 ⟨p5, rfl, htab5, hb5⟩
    have hB5 := then_ hB4 hb5
    have hsets5 := hsets4.below hb5
    have htab5' := htab4.below hb5
    obtain ⟨q, hq⟩ : ∃ q, t.length = q := ⟨_, rfl⟩
    have hlen1 := len_calls _ t w5 htab5
    have hlen2 := len_calls _ t w5 htab5'
    rw [hq] at hlen1 hlen2
    have HL1 := Lib.hid hlen1
    have HL2 := Lib.hid hlen2
    have HQ := Lib.hid hq
    clear hB4 hb5 hsets4 htab4 hlen1 hlen2 hq
    go_wp2_with fail
    refine HL1.out.mono ?_
    rintro _ w5' ⟨rfl, rfl⟩
    go_wp2_with fail
    refine HL2.out.mono ?_
    rintro _ w5' ⟨rfl, rfl⟩
    go_wp2_with fail
    go_loopg [11, 63] m (fun g s11 s63 wr => ∃ (i : Nat) (S : ByteArray), i + g = m ∧ s63 = .int .i64 (i : Int) ∧ s11 = .string S ∧ S.data.toList = pkAll t (F.take i) ∧ S.size ≤ 187 * i ∧ Below w5.heap.size w5 wr)
    case atStart => exact ⟨0, _, by omega, rfl, rfl, by simp [pkAll], Nat.le_refl _, Below.refl _ _⟩
    case round =>
      obtain ⟨i, S2, hig, rfl, rfl, hS2, hz2', hB⟩ := hrel
      have HIG := Lib.hid hig
      have HS2 := Lib.hid hS2
      clear hS2
      by_cases hi : i < m
      · have el : decide ((i : Int) < (m : Int)) = true := by simp; omega
        have el' : decide (i < m) = true := by simp; omega
        clear hig
        have hiF : i < F.length := by have := HFL.out; omega
        obtain ⟨b, off, C, k, d, rfl, hbl, hcell, hE, hkd⟩ := hsets5.at_ hi
        have hcr := (hB.cell (p := ⟨b, off + i, none⟩) hbl).trans hcell
        rw [getElem!_pos F i hiF] at hE
        have hme : F[i] ∈ F := List.getElem_mem hiF
        have hpt := pkAll_take (t := t) hiF
        have hpl := pk_len t F[i]
        have hpr := packR_all hasc (HOK.out _ hme) (HTM.out _ hme)
        have h8 : F[i].length ≤ 8 := by
          rcases encErr_cases F[i] with ⟨a, e⟩ | ⟨_, _, e⟩ | ⟨a, _⟩
          · have := HOK.out _ hme; rw [e] at this; exact absurd this a
          · have := HOK.out _ hme; rw [e] at this; cases this
          · exact (makeErr_ok a).2.1
        have hlz : ∀ x ∈ F[i], x.n.length ≤ 140737488351232 ∧ x.v.length ≤ 140737488351232 := by
          intro x hx
          have h1 := HFZ.out x.n (List.mem_flatMap.2 ⟨_, hme, List.mem_flatMap.2 ⟨x, hx, by simp⟩⟩)
          have h2 := HFZ.out x.v (List.mem_flatMap.2 ⟨_, hme, List.mem_flatMap.2 ⟨x, hx, by simp⟩⟩)
          omega
        have hE1 : Elems wr wr.heap.size 2 encLb C k F[i] := (hE.below hB).more hB.size
        have hkl := hE.len
        have hpk := pack_calls _ t F[i] C k d wr _ 0 hpr (htab5.below hB) hasc (by omega) hE1 hkd (by omega) hlz
        obtain ⟨P, hP⟩ : ∃ P : ByteArray, (⟨(pk t F[i]).toArray⟩ : ByteArray) = P := ⟨_, rfl⟩
        rw [hP] at hpk
        have hPP : P.data.toList = pk t F[i] := by rw [← hP]
        have hPz : P.size ≤ 187 := by rw [← text_size, hPP]; omega
        have hnext : (S2 ++ P).data.toList = pkAll t (F.take (i + 1)) := by
          rw [hpt, ← HS2.out, ← hPP]; simp
        have hnz : (S2 ++ P).size ≤ 187 * (i + 1) := by rw [ByteArray.size_append]; omega
        have HPK := Lib.hid hpk
        have HNEXT := Lib.hid hnext
        have HNZ := Lib.hid hnz
        clear hcell hE hme hpt hpl hpr h8 hlz hE1 hkl hpk hP hPP hnext hnz
        go_wp2_with fail
        refine HPK.out.mono ?_
        rintro _ w6 ⟨rfl, hb6⟩
        have hB6 := then_ hB hb6
        clear hcr HPK
        go_wp2_with fail
        go_roundg (gk - 1)
        case measure => have := HIG.out; omega
        case rel => exact ⟨i + 1, _, by have := HIG.out; omega, by go_num, rfl, HNEXT.out, HNZ.out, hB6⟩
      · have el : decide ((i : Int) < (m : Int)) = false := by simp; omega
        have el' : decide (i < m) = false := by simp; omega
        obtain rfl : i = m := by omega
        have htk : F.take i = F := List.take_of_length_le (by have := HFL.out; omega)
        have hS3 := HS2.out
        rw [htk] at hS3
        have HS3 := Lib.hid hS3
        obtain ⟨wx, rfl⟩ : ∃ x, x = wr := ⟨_, rfl⟩
        have hsets6 := hsets5.below hB
        have htab6 := htab5.below hB
        have hBx := then_ hB5 hB
        clear hig htk hS3 HS2 HIG hsets5 htab5 hB hB5 htab5'
        go_wp2_with fail
        go_loopg [9, 81] i (fun g s9 s81 wr => ∃ j : Nat, j + g = i ∧ s81 = .int .i64 (j : Int) ∧ s9 = .int .i64 ((pkAll t (F.take j)).length : Int) ∧ Below wx.heap.size wx wr)
        case atStart => exact ⟨0, by omega, rfl, by simp [pkAll], Below.refl _ _⟩
        case round =>
          obtain ⟨j, hjg, rfl, rfl, hB⟩ := hrel
          have HJG := Lib.hid hjg
          by_cases hj : j < i
          · have el : decide ((j : Int) < (i : Int)) = true := by simp; omega
            have el' : decide (j < i) = true := by simp; omega
            clear hjg
            have hiF : j < F.length := by have := HFL.out; omega
            obtain ⟨b, off, C, k, d, rfl, hbl, hcell, hE, hkd⟩ := hsets6.at_ hj
            have hcr := (hB.cell (p := ⟨b, off + j, none⟩) hbl).trans hcell
            rw [getElem!_pos F j hiF] at hE
            have hme : F[j] ∈ F := List.getElem_mem hiF
            have hpt := pkAll_take (t := t) hiF
            have hup := unpR_back hasc (by omega) (HOK.out _ hme) (HTM.out _ hme) (pkAll t (F.take j)) (pkAll t (F.drop (j + 1)))
            rw [← pkAll_split hiF, ← HS3.out] at hup
            have hnx : (pkAll t (F.take j)).length + (pk t F[j]).length = (pkAll t (F.take (j + 1))).length := by rw [hpt, List.length_append]
            rw [hnx] at hup
            have hE1 : Elems wr wr.heap.size 2 encLb C k F[j] := (hE.below hB).more hB.size
            have hkl := hE.len
            have hk8 : k ≤ 8 := by
              rw [← hkl]
              rcases encErr_cases F[j] with ⟨a, e⟩ | ⟨_, _, e⟩ | ⟨a, _⟩
              · have := HOK.out _ hme; rw [e] at this; exact absurd this a
              · have := HOK.out _ hme; rw [e] at this; cases this
              · exact (makeErr_ok a).2.1
            obtain ⟨l, hl⟩ : ∃ l, F[j] = l := ⟨_, rfl⟩
            rw [hl] at hup hE1 hkl
            obtain ⟨k1, hk1⟩ : ∃ k, (pkAll t (F.take j)).length = k := ⟨_, rfl⟩
            obtain ⟨k2, hk2⟩ : ∃ k, (pkAll t (F.take (j + 1))).length = k := ⟨_, rfl⟩
            rw [hk1, hk2] at hup
            rw [hk1]
            have hun := unpack_calls _ t S2 k1 wr (l, k2, 0) hup (htab6.below hB) (by omega) (by omega) (fun x hx => by have := HTZ.out x hx; omega)
            have HUN := Lib.hid hun
            have HKL := Lib.hid hkl
            have HK2 := Lib.hid hk2
            clear hcell hE hme hpt hup hnx hkl hl hk1 hk2 hun
            go_wp2_with fail
            refine HUN.out.mono ?_
            rintro _ w7 ⟨A7, c7, rfl, hE7, hc7, hb7⟩
            dsimp only at hE7 hc7 ⊢
            rw [HKL.out] at hE7 hc7 ⊢
            have hE7' : Elems w7 w7.heap.size 2 encLb C k l := (hE1.below hb7).more hb7.size
            have hB7 := then_ hB hb7
            clear hcr HUN hE1 hb7 hB
            go_wp2_with fail
            refine (compare05_calls l A7 C k c7 d w7 hE7 hE7' (by omega)).mono ?_
            rintro _ w8 ⟨rfl, hb8⟩
            have hB8 := then_ hB7 hb8
            go_wp2_with fail
            go_roundg (gk - 1)
            case measure => have := HJG.out; omega
            case rel => exact ⟨j + 1, by have := HJG.out; omega, by go_num, by rw [HK2.out], hB8⟩
          · have el : decide ((j : Int) < (i : Int)) = false := by simp; omega
            have el' : decide (j < i) = false := by simp; omega
            have htk : F.take j = F := List.take_of_length_le (by have := HFL.out; omega)
            have hkk : (pkAll t (F.take j)).length = S2.size := by rw [htk, ← HS3.out]; exact text_size S2
            rw [hkk]
            have hBf := then_ hBx hB
            clear hjg htk hkk
            go_wp2_with fail
            go_ret
            exact ⟨rfl, hBf⟩
end Go.Proofs.Ytpmahljbkgielaa
