/- SymbolsCollects: what the statement's function computes is true. -/
import Derived.Test.YtpmahljbkgielaaColWalks
import Derived.Test.YtpmahljbkgielaaSymWalksD
namespace Go.Proofs.Ytpmahljbkgielaa
open Go.RowKit Go.Sort
attribute [local go_sem ↓] Go.wp_at_zero Go.wp_at_succ
attribute [local go_sem] Later.cell Later.frozen
theorem info_rlabs : (Try.prog.info? 40).map (fun i => (i.zero, i.size, i.bytes)) = some (some (.slice none 0 0), 1, 24) := by kernel_rfl

set_option maxRecDepth 100000 in
set_option maxHeartbeats 2000000 in
theorem symbolsCollects_calls (L : List (List Lb)) (A : Option Addr) (n c : Nat) (w : World) (hS : Sets w A n L) (hn : n ≤ 1048576) (hall : (allT L).length ≤ 1048576) (hz : ∀ x ∈ allT L, x.length ≤ 1048576) :
    Calls Try.prog 5 #[.slice A n c] w fun e w' => e = .returned (.bool true) ∧ Below w.heap.size w w' := by
  obtain ⟨i0, hi0, hz0, hz1, hz2⟩ := info_parts info_rlabs
  have hL := hS.len
  have HL := Lib.hid hL
  have HZ := Lib.hid hz
  clear hL hz
  go_enter Try.func5, Try.ntmps5
  go_upto_block 0 with fail
  go_cut [3] (fun s3 wz => ∃ A3 c3, s3 = .slice A3 n c3 ∧ Sets wz A3 n L ∧ Below w.heap.size w wz)
  case first =>
    go_wp2_with fail
    go_loopg [3, 8] n (fun g s3 s8 wr => ∃ (i : Nat) (v3 : Value) (hs : List Hd), v3 = s3 ∧ i + g = n ∧ s8 = .int .i64 (i : Int) ∧ hs.length = i ∧ wr.ownsRow w.heap.size 40 1 v3 i (hs.flatMap encH) ∧ (∀ (j : Nat) (h : Hd), hs[j]? = some h → (Elems wr wr.heap.size 2 encLb h.A h.n L[j]! ∧ h.n ≤ h.c) ∧ ∀ a, h.A = some a → a.block < wr.heap.size ∧ some a.block ≠ v3.ownBlock) ∧ Below w.heap.size w wr)
    case atStart => exact ⟨0, _, [], rfl, by omega, rfl, rfl, World.ownsRow_nil _ _ _ _, (fun j h e => by simp at e), Below.refl _ _⟩
    case round =>
      obtain ⟨i, v3, hs, rfl, hig, rfl, hsl, hown, hels, hB⟩ := hrel
      have HIG := Lib.hid hig
      have HSL := Lib.hid hsl
      have HELS := Lib.hid hels
      clear hig hsl hels
      by_cases hi : i < n
      · have el : decide ((i : Int) < (n : Int)) = true := by simp; omega
        have el' : decide (i < n) = true := by simp; omega
        have hiL : i < L.length := by have := HL.out; omega
        obtain ⟨b, off, C, m, d, rfl, hbl, hcell, hE, hmd⟩ := hS.at_ hi
        have hcr := (hB.cell (p := ⟨b, off + i, none⟩) hbl).trans hcell
        have hpart := allT_part hiL
        obtain ⟨l, hl⟩ : ∃ l, L[i]! = l := ⟨_, rfl⟩
        rw [hl] at hE hpart
        have hll := hE.len
        rw [texts_len, hll] at hpart
        have hE1 : Elems wr wr.heap.size 2 encLb C m l := (hE.below hB).more hB.size
        have HLI := Lib.hid hl
        have HLL := Lib.hid hll
        clear hl hll hcell
        go_wp2_with fail
        refine (ref05_calls l C m d wr hE1 (by omega)).mono ?_
        rintro e w1 ⟨A1, c1, rfl, hE1', hc1, hb1, hfr1⟩
        rw [HLL.out] at hE1' hc1 ⊢
        have hB1 := then_ hB hb1
        have hown1 := own_later5 hown hb1
        have hbs1 := hB1.size
        have HOWN := Lib.hid hown
        clear hE1 hcr hown
        go_wp2_with (at_builtin; refine wpList_append_own_at _ rfl _ _ 46 rfl w.heap.size 40 i0 (.slice none 0 0) 1 24 Try.underlying46 hi0 hz0 hz1 hz2 rfl (by decide) _ _ _ rfl (hown1.alloc _) ⟨w1.heap.size, 0, none⟩ 1 1 [.slice A1 m c1] rfl rfl ?p1 ?p2 ?p3 ?p4 ?p5 ?_)
        case p1 => exact news_of_blk (l := [.slice A1 m c1]) (Blk.new w1 _ _)
        case p2 => intro u hu; rw [List.mem_singleton.1 hu]; rfl
        case p3 => unfold maxLen; omega
        case p4 => omega
        case p5 => simp; omega
        intro v' w2 hown' hgrow _ hat
        have hB2 : Below w.heap.size w w2 := own_below hB1 hB1.size hown1 hgrow
        have hall2 : w1.grownBy w2 v3.ownBlock := (World.grownBy_alloc w1 _ _).trans hgrow
        have hlt3 : ∀ g, v3.ownBlock = some g → g < wr.heap.size := fun g hg => (HOWN.out.lt g hg).2
        have hels2 : ∀ (j : Nat) (h : Hd), (hs ++ [⟨A1, m, c1⟩])[j]? = some h → (Elems w2 w2.heap.size 2 encLb h.A h.n L[j]! ∧ h.n ≤ h.c) ∧ ∀ a, h.A = some a → a.block < w2.heap.size ∧ some a.block ≠ v'.ownBlock := by
          intro j h hj
          have key : (Elems w1 w1.heap.size 2 encLb h.A h.n L[j]! ∧ h.n ≤ h.c) → (∀ a, h.A = some a → a.block < w1.heap.size ∧ some a.block ≠ v3.ownBlock) → (Elems w2 w2.heap.size 2 encLb h.A h.n L[j]! ∧ h.n ≤ h.c) ∧ ∀ a, h.A = some a → a.block < w2.heap.size ∧ some a.block ≠ v'.ownBlock := by
            rintro ⟨hE, hnc⟩ hne
            refine ⟨⟨(hE.keepAt (w' := w2) fun p hp hA => ?_).more hall2.size, hnc⟩, fun a ha => ⟨Nat.lt_of_lt_of_le (hne a ha).1 hall2.size, ?_⟩⟩
            · obtain ⟨a, ha⟩ : ∃ a, h.A = some a := by
                cases hA' : h.A with
                | none => rw [hA'] at hA; cases hA
                | some a => exact ⟨a, rfl⟩
              have := (hne a ha).2
              rw [ha] at hA
              have e : a.block = p.block := by simpa using hA
              rw [e] at this
              exact World.cell?_of_block (hall2.block p.block hp this)
            · rcases hat with h1 | h1
              · rw [h1]; exact (hne a ha).2
              · rw [h1]
                intro e
                injection e with e
                have := (hne a ha).1
                omega
          rw [List.getElem?_append] at hj
          split at hj
          · obtain ⟨⟨h1, h2⟩, h3⟩ := HELS.out j h hj
            exact key ⟨(h1.below hb1).more hb1.size, h2⟩ fun a ha => ⟨Nat.lt_of_lt_of_le (h3 a ha).1 hb1.size, (h3 a ha).2⟩
          · rename_i hjl
            have hj0 : j - hs.length = 0 := by
              apply Classical.byContradiction
              intro hne
              rw [List.getElem?_eq_none (by simp; omega)] at hj
              cases hj
            rw [hj0] at hj
            simp at hj
            subst hj
            obtain rfl : j = i := by have := HSL.out; omega
            rw [HLI.out] at key ⊢
            exact key ⟨hE1', hc1⟩ fun a ha => ⟨(hfr1 a ha).2, fun e => by have := hlt3 _ e.symm; have := (hfr1 a ha).1; omega⟩
        have hown2 : w2.ownsRow w.heap.size 40 1 v' (i + 1) ((hs ++ ([⟨A1, m, c1⟩] : List Hd)).flatMap encH) := by
          rw [List.flatMap_append]
          exact hown'
        have HELS2 := Lib.hid hels2
        clear hown' hgrow hat hall2 hels2 hown1
        go_wp2_with fail
        go_roundg (gk - 1)
        case measure => have := HIG.out; omega
        case rel => exact ⟨i + 1, _, _, rfl, by have := HIG.out; omega, by go_num, by rw [List.length_append, HSL.out]; rfl, hown2, HELS2.out, hB2⟩
      · have el : decide ((i : Int) < (n : Int)) = false := by simp; omega
        have el' : decide (i < n) = false := by simp; omega
        obtain rfl : i = n := by have := HIG.out; omega
        obtain ⟨A', c', rfl, hE', _, hc'⟩ := Elems.of_own (enc := encH) (fun x _ => rfl) rfl hown HSL.out
        have hsets : Sets wr A' i L := ⟨hs, hE', HL.out, fun j h hj => (HELS.out j h hj).1⟩
        go_wp2_with fail
        go_meet
        exact ⟨A', c', rfl, hsets, hB⟩
  case rest =>
    obtain ⟨A3, c3, rfl, hsets, hB⟩ := hcut
    obtain ⟨w1, rfl⟩ : ∃ x, x = wc := ⟨_, rfl⟩
    go_wp2_with fail
    refine (wakes05_calls w1).mono ?_
    rintro e w2 ⟨rfl, hb2⟩
    have hB2 := then_ hB hb2
    have hS2 := hS.below hB2
    have hsets2 := hsets.below hb2
    clear hsets hb2 hB
    go_wp2_with fail
    refine (collect_calls L A n c w2 hS2 hn hall HZ.out).mono ?_
    rintro e w3 ⟨p, t, rfl, htab, hist, htl, hb3, _⟩
    have hB3 := then_ hB2 hb3
    have hsets3 := hsets2.below hb3
    clear hsets2 hb3 hB2 hS2
    go_wp2_with fail
    refine (rcollect_calls L A3 n c3 w3 hsets3 hn hall).mono ?_
    rintro e w4 ⟨A4, c4, t', rfl, hs4, hist', _, hc4, hb4⟩
    obtain rfl : t' = t := hist'.one hist
    have hB4 := then_ hB3 hb4
    have htab4 := htab.below hb4
    obtain ⟨q, hq⟩ : ∃ m, t'.length = m := ⟨_, rfl⟩
    rw [hq] at hs4 hc4 htl ⊢
    have hasc := hist.1
    clear hsets3 hb4 hB3 htab hist hist' hq
    go_wp2_with fail
    refine (is_calls _ t' A4 q c4 w4 htab4 hs4 hasc (by omega)).mono ?_
    rintro e w5 ⟨rfl, hb5⟩
    have hB5 := then_ hB4 hb5
    go_wp2_with fail
    go_ret
    exact ⟨rfl, hB5⟩
end Go.Proofs.Ytpmahljbkgielaa
