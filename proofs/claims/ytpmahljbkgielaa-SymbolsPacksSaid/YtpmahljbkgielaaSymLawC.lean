/- SymbolsPacks: what the statement's function computes is true. -/
import Derived.Test.YtpmahljbkgielaaUnpWalksC
namespace Go.Proofs.Ytpmahljbkgielaa
open Go.RowKit Go.Sort
attribute [local go_sem ↓] Go.wp_at_zero Go.wp_at_succ
attribute [local go_sem] Later.cell Later.frozen

set_option maxRecDepth 100000 in
set_option maxHeartbeats 1000000 in
theorem alike05_calls (l : List Lb) (A B : Option Addr) (n ca cb : Nat) (w : World) (hA : Elems w w.heap.size 2 encLb A n l) (hB : Elems w w.heap.size 2 encLb B n l) (hn : n ≤ 140737488351232) :
    Calls Try.prog 25 #[.slice A n ca, .slice B n cb] w fun e w' => e = .returned (.bool true) ∧ Below w.heap.size w w' := by
  have hl := hA.len
  have HL := Lib.hid hl
  clear hl
  go_enter Try.func25, Try.ntmps25
  go_wp2_with fail
  go_loopg [13] n (fun g s13 wr => ∃ i : Nat, i + g = n ∧ s13 = .int .i64 (i : Int) ∧ Below w.heap.size w wr)
  case atStart => exact ⟨0, by omega, rfl, Below.refl _ _⟩
  case round =>
    obtain ⟨i, hig, rfl, hBw⟩ := hrel
    have HIG := Lib.hid hig
    clear hig
    by_cases hi : i < n
    · have el : decide ((i : Int) < (n : Int)) = true := by simp; omega
      have el' : decide (i < n) = true := by simp; omega
      have hil : i < l.length := by have := HL.out; omega
      obtain ⟨ba, oa, rfl, _, _⟩ := hA.2 (by omega)
      obtain ⟨bb, ob, rfl, _, _⟩ := hB.2 (by omega)
      obtain ⟨hba, a0, a1⟩ := lab_at hA (by omega) hBw i hil
      obtain ⟨hbb, b0, b1⟩ := lab_at hB (by omega) hBw i hil
      obtain ⟨X, hX⟩ : ∃ N : ByteArray, (⟨l[i]!.n.toArray⟩ : ByteArray) = N := ⟨_, rfl⟩
      obtain ⟨Y, hY⟩ : ∃ N : ByteArray, (⟨l[i]!.v.toArray⟩ : ByteArray) = N := ⟨_, rfl⟩
      rw [hX] at a0 b0
      rw [hY] at a1 b1
      have hba' : ba < wr.heap.size := lt_of_cell a0
      have hbb' : bb < wr.heap.size := lt_of_cell b0
      clear hX hY
      go_upto_region 6 with fail
      refine wp_region_later (by kernel_rfl) (by kernel_rfl) ?_
      repeat (go_big_quiet_step (fail))
      refine wpQuiet_nil ?_
      rintro w6 ⟨⟨_, hb6⟩, rfl⟩
      have hB6 := then_ hBw hb6
      go_wp2_with fail
      go_roundg (gk - 1)
      case measure => have := HIG.out; omega
      case rel => exact ⟨i + 1, by have := HIG.out; omega, by go_num, hB6⟩
    · have el : decide ((i : Int) < (n : Int)) = false := by simp; omega
      have el' : decide (i < n) = false := by simp; omega
      go_wp2_with fail
      go_ret
      exact ⟨rfl, hBw⟩
theorem unpL_len (t : List Txt) (s : List UInt8) : ∀ (g : Nat) (out : List Lb) (p : Nat), (unpL t s g out p).1.length ≤ out.length + g
  | 0, out, p => by simp [unpL]
  | g + 1, out, p => by
    rw [unpL]
    repeat' split
    all_goals (try simp)
    refine Nat.le_trans (unpL_len t s g _ _) ?_
    simp
    omega
theorem unpR_len (t : List Txt) (s : List UInt8) (k : Int) : (unpR t s k).1.length ≤ 8 := by
  unfold unpR
  repeat' split
  all_goals (try simp)
  have := unpL_len t s (readAt s k).1 [] (readAt s k).2.1
  simp at this
  omega
theorem labs_news {w : World} {a : Addr} {n : Nat} {l : List Lb} (h : Elems w w.heap.size 2 encLb (some a) n l) (hn : 0 < n) : ∀ j u, (l.flatMap encLb)[j]? = some u → w.cell? (a.add j) = some u := by
  intro j u hu
  obtain ⟨b, off, e, _, _⟩ := h.2 hn
  injection e with e
  subst e
  have hj : j < l.length * 2 := by have := (List.getElem?_eq_some_iff.1 hu).1; rw [flat_len] at this; exact this
  rw [Addr.add_lit, labs_cells h hn j hj, hu]
theorem labs_one (l : List Lb) : ∀ u ∈ l.flatMap encLb, u.oneCell' = true := by
  intro u hu
  obtain ⟨x, _, hx⟩ := List.mem_flatMap.1 hu
  exact encLb_one x u hx

set_option maxRecDepth 100000 in
set_option maxHeartbeats 2000000 in
theorem symbolsPacks_calls (l : List Txt) (A : Option Addr) (n c : Nat) (L : List Lb) (B : Option Addr) (m d : Nat) (s : ByteArray) (w : World) (h : Strs w A n l) (hA : A = none → c = 0) (hc : n ≤ c) (hn : n * 16 ≤ 140737488351232) (hlz : ∀ x ∈ l, x.length ≤ 140737488351232)
    (hE : Elems w w.heap.size 2 encLb B m L) (hBn : B = none → d = 0) (hmd : m ≤ d) (hm : m * 32 ≤ 140737488351232) (hz : ∀ x ∈ L, x.n.length ≤ 140737488351232 ∧ x.v.length ≤ 140737488351232) (hs : s.size ≤ 140737488351232) :
    Calls Try.prog 6 #[.slice A n c, .slice B m d, .string s] w fun e w' => e = .returned (.bool true) ∧ Below w.heap.size w w' := by
  obtain ⟨i0, hi0, hz0, hz1, hz2⟩ := info_parts info_lab
  have hl := h.len
  have HL := Lib.hid hl
  have HZ := Lib.hid hz
  have HLZ := Lib.hid hlz
  have hml := hE.len
  have HML := Lib.hid hml
  have HA := Lib.hid hA
  have HBN := Lib.hid hBn
  clear hl hz hml hlz hA hBn
  go_enter Try.func6, Try.ntmps6
  go_wp2_with fail
  refine (twin_calls l A n c w h HA.out hn).mono ?_
  rintro _ w1 ⟨A1, c1, rfl, hs1, _, hb1, _, _⟩
  rw [HL.out] at hs1 ⊢
  go_wp2_with fail
  refine (of_calls l A1 n c1 w1 hs1 hn).mono ?_
  rintro _ w2 ⟨p, t, rfl, htab2, hist, htl, hb2, _⟩
  have hB2 := then_ hb1 hb2
  have h2 := h.below hB2
  clear hs1 hb1 hb2
  go_wp2_with fail
  refine (rof_calls n l A c w2 h2 hc hn).mono ?_
  rintro _ w3 ⟨A3, c3, t', rfl, hs3, hist', _, hc3, hb3⟩
  obtain rfl : t' = t := hist'.one hist
  have htab3 := htab2.below hb3
  have hB3 := then_ hB2 hb3
  have hasc := hist.1
  have htz : ∀ x ∈ t', x.length ≤ 140737488351232 := fun x hx => HLZ.out x ((hist.2 x).1 hx)
  have HTZ := Lib.hid htz
  rw [HL.out] at htl
  obtain ⟨q, hq⟩ : ∃ m, t'.length = m := ⟨_, rfl⟩
  have HQ := Lib.hid hq
  rw [hq] at hs3 hc3 htl ⊢
  clear htab2 h2 hb3 hB2 hist hist' hq htz
  obtain ⟨S0, er, hp⟩ : ∃ s e, packR t' L = (s, e) := ⟨_, _, rfl⟩
  have HP := Lib.hid hp
  clear hp
  obtain ⟨S, hS⟩ : ∃ S : ByteArray, (⟨S0.toArray⟩ : ByteArray) = S := ⟨_, rfl⟩
  have HS := Lib.hid hS
  clear hS
  go_upto_region 3 with fail
  go_cut [9, 10] (fun s9 s10 wz => s9 = .string S ∧ s10 = .int .i64 (er : Int) ∧ Below w3.heap.size w3 wz)
  case first =>
    have hE3 : Elems w3 w3.heap.size 2 encLb B m L := (hE.below hB3).more hB3.size
    cases B with
    | none =>
      obtain rfl : m = 0 := by
        rcases Nat.eq_zero_or_pos m with h0 | h0
        · exact h0
        · obtain ⟨b, off, e, _⟩ := hE3.2 h0; cases e
      obtain rfl := HBN.out rfl
      go_wp2_with (at_builtin; refine wpList_append_own_none rfl _ _ 36 rfl w3.heap.size 69 i0 2 Try.underlying36 hi0 _ _ _ rfl (World.ownsRow_nil _ _ _ _) rfl ?_)
      refine (pack_calls _ t' L none 0 0 w3 S0 er HP.out htab3 hasc (by rw [HQ.out]; omega) hE3 (by omega) (by omega) HZ.out).mono ?_
      rintro _ w4 ⟨rfl, hb4⟩
      rw [HS.out]
      go_wp2_with fail
      go_meet
      exact ⟨rfl, rfl, hb4⟩
    | some a =>
      by_cases hm0 : m = 0
      · subst hm0
        obtain rfl : L = [] := List.eq_nil_of_length_eq_zero HML.out
        go_wp2_with (at_builtin; refine wpList_append_own_at _ rfl _ _ 36 rfl w3.heap.size 69 i0 (.agg #[.string ⟨#[]⟩, .string ⟨#[]⟩]) 2 32 Try.underlying36 hi0 hz0 hz1 hz2 rfl (by decide) _ _ _ rfl (World.ownsRow_nil _ _ _ _) a 0 d [] rfl ?c0 ?c1 ?c2 ?c3 ?c4 ?c5 ?_)
        case c0 => rfl
        case c1 => intro j u hu; simp at hu
        case c2 => intro u hu; cases hu
        case c3 => unfold maxLen; omega
        case c4 => omega
        case c5 => exact Nat.le_refl _
        intro v' w4 hown0 hgrow hx hat
        have hb : Below w3.heap.size w3 w4 := ⟨hgrow.os, hgrow.tape, hgrow.output, hgrow.size, fun k hk => hgrow.block k hk (fun e => by cases e)⟩
        obtain ⟨A4, c4, rfl, hE4, _, hc4⟩ := Elems.of_own (enc := encLb) (xs := []) (fun x _ => encLb_len x) rfl hown0 rfl
        clear hown0 hgrow hx hat
        go_wp2_with fail
        refine (pack_calls _ t' [] A4 0 c4 w4 S0 er HP.out (htab3.below hb) hasc (by rw [HQ.out]; omega) hE4 hc4 (by omega) HZ.out).mono ?_
        rintro _ w5 ⟨rfl, hb5⟩
        rw [HS.out]
        go_wp2_with fail
        go_meet
        exact ⟨rfl, rfl, then_ hb hb5⟩
      · have hnews := labs_news hE3 (by omega)
        have HN := Lib.hid hnews
        clear hnews
        go_wp2_with (at_builtin; refine wpList_append_own_at _ rfl _ _ 36 rfl w3.heap.size 69 i0 (.agg #[.string ⟨#[]⟩, .string ⟨#[]⟩]) 2 32 Try.underlying36 hi0 hz0 hz1 hz2 rfl (by decide) _ _ _ rfl (World.ownsRow_nil _ _ _ _) a m d (L.flatMap encLb) rfl ?c0 ?c1 ?c2 ?c3 ?c4 ?c5 ?_)
        case c0 => rw [flat_len, HML.out]
        case c1 => exact HN.out
        case c2 => exact labs_one L
        case c3 => unfold maxLen; omega
        case c4 => omega
        case c5 => exact Nat.le_refl _
        intro v' w4 hown0 hgrow hx hat
        have hown : w4.ownsRow w3.heap.size 69 2 v' m (L.flatMap encLb) := by simpa using hown0
        have hb : Below w3.heap.size w3 w4 := ⟨hgrow.os, hgrow.tape, hgrow.output, hgrow.size, fun k hk => hgrow.block k hk (fun e => by cases e)⟩
        obtain ⟨A4, c4, rfl, hE4, _, hc4⟩ := Elems.of_own (enc := encLb) (fun x _ => encLb_len x) rfl hown HML.out
        clear hown0 hgrow hx hat hown
        go_wp2_with fail
        refine (pack_calls _ t' L A4 m c4 w4 S0 er HP.out (htab3.below hb) hasc (by rw [HQ.out]; omega) hE4 hc4 (by omega) HZ.out).mono ?_
        rintro _ w5 ⟨rfl, hb5⟩
        rw [HS.out]
        go_wp2_with fail
        go_meet
        exact ⟨rfl, rfl, then_ hb hb5⟩
  case rest =>
    obtain ⟨rfl, rfl, hb4⟩ := hcut
    obtain ⟨w4, rfl⟩ : ∃ x, x = wc := ⟨_, rfl⟩
    have hB4 := then_ hB3 hb4
    have hs4 := hs3.below hb4
    have htab4 := htab3.below hb4
    have hE4 : Elems w4 w4.heap.size 2 encLb B m L := (hE.below hB4).more hB4.size
    clear hs3 htab3 hb4 hB3
    go_wp2_with fail
    refine (ref05_calls L B m d w4 hE4 hm).mono ?_
    rintro _ w5 ⟨A5, c5, rfl, hE5, hc5, hb5⟩
    rw [HML.out] at hE5 hc5 ⊢
    have hB5 := then_ hB4 hb5
    have hs5 := hs4.below hb5
    have htab5 := htab4.below hb5
    clear hs4 htab4 hb5 hB4 hE4
    go_wp2_with fail
    refine (rpack_calls A3 q c3 t' L A5 m c5 w5 S0 er HP.out hs5 hasc (by omega) hE5 (by omega) HZ.out).mono ?_
    rintro _ w6 ⟨rfl, hb6⟩
    rw [HS.out]
    have hB6 := then_ hB5 hb6
    have hs6 := hs5.below hb6
    have htab6 := htab5.below hb6
    clear hs5 htab5 hb6 hB5 hE5 hc5
    obtain ⟨ol, nx, eo, hR⟩ : ∃ ol nx eo, unpR t' s.data.toList 0 = (ol, nx, eo) := ⟨_, _, _, rfl⟩
    have HR := Lib.hid hR
    clear hR
    go_wp2_with fail
    refine (unpack_calls _ t' s 0 w6 (ol, nx, eo) HR.out htab6 (by rw [HQ.out]; omega) hs HTZ.out).mono ?_
    rintro _ w7 ⟨A7, c7, rfl, hE7, hc7, hb7⟩
    dsimp only at hE7 hc7 ⊢
    have hB7 := then_ hB6 hb7
    have hs7 := hs6.below hb7
    clear hs6 htab6 hb7 hB6
    obtain ⟨on, hon⟩ : ∃ k, ol.length = k := ⟨_, rfl⟩
    have HON := Lib.hid hon
    rw [hon] at hE7 hc7 ⊢
    clear hon
    go_wp2_with fail
    refine (runpack_calls t' A3 q c3 s 0 w7 (ol, nx, eo) HR.out hs7 (by omega) hs HTZ.out).mono ?_
    rintro _ w8 ⟨A8, c8, rfl, hE8, hc8, hb8⟩
    dsimp only at hE8 hc8 ⊢
    rw [HON.out] at hE8 hc8 ⊢
    have hB8 := then_ hB7 hb8
    have hE78 : Elems w8 w8.heap.size 2 encLb A7 on ol := (hE7.below hb8).more hb8.size
    have hon8 : on ≤ 8 := by have := unpR_len t' s.data.toList 0; rw [HR.out] at this; rw [← HON.out]; exact this
    clear hs7 hb8 hB7 hE7
    go_wp2_with fail
    refine (wakes05_calls w8).mono ?_
    rintro _ w9 ⟨rfl, hb9⟩
    have hB9 := then_ hB8 hb9
    have hE9 : Elems w9 w9.heap.size 2 encLb A7 on ol := (hE78.below hb9).more hb9.size
    have hE9' : Elems w9 w9.heap.size 2 encLb A8 on ol := (hE8.below hb9).more hb9.size
    clear hE78 hE8 hb9 hB8
    go_wp2_with fail
    refine (alike05_calls ol A7 A8 on c7 c8 w9 hE9 hE9' (by omega)).mono ?_
    rintro _ w10 ⟨rfl, hb10⟩
    have hB10 := then_ hB9 hb10
    go_wp2_with fail
    go_ret
    exact ⟨rfl, hB10⟩
end Go.Proofs.Ytpmahljbkgielaa
