/- The walks of Match and Begins. -/
import Derived.Test.YtlmnincllndpnaaDerBehind
namespace Go.Proofs.Ytlmnincllndpnaa
open Go.RowKit
open Go.ChangeMaps (setBlock)
open Go.MapKept (Stamped stamped_empty)
attribute [local go_sem ↓] Go.wp_at_zero Go.wp_at_succ
attribute [local go_sem] Later.cell Later.frozen

def BehindOk (o : Option Addr) (s : ByteArray) (D : List (List Tr)) (w : World) : Prop :=
  Calls Try.prog 29 #[.pointer o, .string s] w fun e w' => ∃ m, e = .returned (.map (some m)) ∧ NowIs w' m D ∧ Below w.heap.size w w'

set_option maxHeartbeats 400000 in
theorem begins_any (o : Option Addr) (s : ByteArray) (D : List (List Tr)) (w : World) (h : BehindOk o s D w) (r : Bool) (hr : (!D.isEmpty) = r) :
    Calls Try.prog 15 #[.pointer o, .string s] w fun e w' => e = .returned (.bool r) ∧ Below w.heap.size w w' := by
  have H := Lib.hid h
  have HR := Lib.hid hr
  clear h hr
  go_enter Try.func15, Try.ntmps15
  go_wp2_with fail
  refine H.out.mono ?_
  rintro e w1 ⟨m, rfl, ⟨es, clock, hm, _, _, hsnd, hcpl⟩, hb⟩
  have hlen := len_map hm 3
  have hfin : decide (0 < es.size) = r := by
    rw [← HR.out]
    rw [Bool.eq_iff_iff]
    simp only [decide_eq_true_eq, Bool.not_eq_true', List.isEmpty_eq_false_iff]
    constructor
    · intro h h0
      subst h0
      have he : 0 < es.size := by omega
      obtain ⟨c, hc, _⟩ := hsnd es[0] (by simp)
      simp at hc
    · intro h
      cases D with
      | nil => exact absurd rfl h
      | cons c D =>
        obtain ⟨e, he, _⟩ := hcpl c (by simp)
        have : es.toList ≠ [] := by intro h0; rw [h0] at he; simp at he
        have : es.size ≠ 0 := by intro h0; exact this (by simp [Array.eq_empty_of_size_eq_zero h0])
        omega
  have HF := Lib.hid hfin
  clear hfin hsnd hcpl
  go_wp2_with fail
  go_ret
  exact ⟨ret_bool HF.out, hb⟩

/-- While Match goes through the rests. -/
structure MMem (w wo wr : World) (m it : Nat) (es : Array MapEntry) (clock : Nat) (seen : Array Nat) : Prop where
  map : wr.heap[m]? = some (.map es clock)
  iter : wr.heap[it]? = some (.mapIter (some m) clock seen clock)
  below : Below w.heap.size w wr
  keeps : Keeps wo wr
theorem MMem.next {w wo wr w1 : World} {m it : Nat} {es : Array MapEntry} {clock : Nat} {seen seen' : Array Nat} (h : MMem w wo wr m it es clock seen) (hw : w1 = wr ∨ w1 = wr.drew) (n3 : it ≠ m) (hlo : w.heap.size ≤ it) :
    MMem w wo (setBlock w1 it (.mapIter (some m) clock seen' clock)) m it es clock seen' := by
  have key : ∀ wx : World, MMem w wo wx m it es clock seen → MMem w wo (setBlock wx it (.mapIter (some m) clock seen' clock)) m it es clock seen' := by
    intro wx h
    have hk := keeps_iter h.iter (.mapIter (some m) clock seen' clock)
    have hkp : Kept wx.heap.size [it] wx (setBlock wx it (.mapIter (some m) clock seen' clock)) := (Kept.refl _ _ _).setBlock (.inl (by simp)) _
    exact ⟨(setBlock_other _ _ n3.symm).trans h.map, setBlock_same h.iter, h.below.trans ((hkp.into (B' := w.heap.size) h.below.size (fun _ h => h)).below (by simpa using hlo)), h.keeps.trans hk⟩
  rcases hw with rfl | rfl
  · exact key _ h
  · exact key _ ⟨h.map, h.iter, h.below.drew, h.keeps⟩

set_option maxRecDepth 100000 in
set_option maxHeartbeats 2000000 in
theorem match_any (o : Option Addr) (s : ByteArray) (D : List (List Tr)) (w : World) (h : BehindOk o s D w) (r : Bool) (hr : r = true ↔ ∃ k ∈ D, k.all null = true) :
    Calls Try.prog 14 #[.pointer o, .string s] w fun e w' => e = .returned (.bool r) ∧ Below w.heap.size w w' := by
  have H := Lib.hid h
  have HR := Lib.hid hr
  clear h hr
  go_enter Try.func14, Try.ntmps14
  go_wp2_with fail
  refine H.out.mono ?_
  rintro e wo ⟨m, rfl, ⟨es, clock, hm, hst, _, hsnd, hcpl⟩, hb⟩
  have HST := Lib.hid hst
  have HSN := Lib.hid hsnd
  have HCP := Lib.hid hcpl
  have hml : m < wo.heap.size := (Array.getElem?_eq_some_iff.1 hm).1
  have hbs := hb.size
  have hrange := run_range_map (P := Try.prog) wo 60 62 3 m es clock Try.underlying60 hm
  have hbn : Below wo.heap.size wo (wo.alloc (.mapIter (some m) clock #[] clock)) := by go_grown
  have hM0 : MMem w wo (wo.alloc (.mapIter (some m) clock #[] clock)) m wo.heap.size es clock #[] :=
    ⟨(hbn.block m hml).trans hm, heap_alloc_new _ _, hb.trans (hbn.mono hbs), below_keeps hbn⟩
  obtain ⟨it, hit⟩ : ∃ x, wo.heap.size = x := ⟨_, rfl⟩
  rw [hit] at hM0 hml hbs
  clear hst hsnd hcpl hbn hm
  go_wp2_with fail
  obtain ⟨wi, hwi⟩ : ∃ wi, wo.alloc (.mapIter (some m) clock #[] clock) = wi := ⟨_, rfl⟩
  rw [hwi] at hM0 ⊢
  clear hwi hrange hit
  go_loopg [] es.size (fun g wr => ∃ seen, (leftOf es seen).size ≤ g ∧ MMem w wo wr m it es clock seen ∧ ∀ e ∈ es.toList, seen.contains e.born = true → ∀ c, ChainIs wo c e.key → c.all null = false)
  case atStart => exact ⟨#[], by unfold leftOf; exact Array.size_filter_le, hM0, by simp⟩
  case round =>
    clear hM0
    obtain ⟨seen, hg, hM, hcp⟩ := hrel
    have HCM := Lib.hid hcp
    clear hcp
    rcases run_next_at (P := Try.prog) wr 0 it m clock clock seen es clock hM.iter hM.map HST.out.1 (Nat.le_refl _) with ⟨h0, hrun⟩ | ⟨e, he, w1, hw1, hrun⟩
    · have H0 := Lib.hid h0
      clear h0
      go_wp2_with fail
      go_ret
      refine ⟨ret_bool ?_, hM.below⟩
      symm
      rw [← Bool.not_eq_true, HR.out]
      rintro ⟨c, hc, hn⟩
      obtain ⟨e, h3, h4⟩ := HCP.out c hc
      rw [HCM.out e h3 (all_seen es seen H0.out e h3) c h4] at hn
      cases hn
    · have heL := mem_left he
      have hshr := left_shrinks es seen e he
      have hM1 := hM.next (w1 := w1) (seen' := seen.push e.born) hw1 (by omega) (by omega)
      have hentry := run_entry_at (P := Try.prog) _ it m clock seen es clock e hM1.iter hM1.map heL.1 HST.out.2.1
      obtain ⟨c0, hc0, hch⟩ := HSN.out e heL.1
      obtain ⟨o, ho⟩ := hch.ptr.form
      obtain ⟨vl, hvl⟩ : ∃ v, e.val = v := ⟨_, rfl⟩
      rw [ho] at hch
      rw [ho, hvl] at hrun hentry
      have HO := Lib.hid ho
      have HSH := Lib.hid hshr
      have HEL := Lib.hid heL.1
      obtain ⟨wq, hwq⟩ : ∃ wq, setBlock w1 it (.mapIter (some m) clock (seen.push e.born) clock) = wq := ⟨_, rfl⟩
      rw [hwq] at hM1 hrun hentry
      clear hwq hw1 hvl heL hshr he ho hM
      go_upto_block 2 with fail
      clear hrun hentry
      have hchq := hch.keep hM1.keeps
      go_cut [5] (fun s5 wz => wz = wq ∧ ∃ c' o', s5 = .pointer o' ∧ ChainIs wq c' (.pointer o') ∧ c0.all null = c'.isEmpty)
      case first =>
        go_wp2_with fail
        go_loopg [5] c0.length (fun g s5 wl => wl = wq ∧ ∃ c' o', s5 = .pointer o' ∧ c'.length ≤ g ∧ ChainIs wq c' (.pointer o') ∧ c0.all null = c'.all null)
        case atStart => exact ⟨rfl, c0, o, rfl, Nat.le_refl _, hchq, rfl⟩
        case round =>
          obtain ⟨rfl, c', o', rfl, hlen, hc', hall⟩ := hrel
          have HALL := Lib.hid hall
          clear hall
          match c', hc', HALL, hlen with
          | [], hc', HALL, hlen =>
            obtain rfl : o' = none := by have h : Value.pointer o' = .pointer none := hc'; injection h
            go_wp2_with fail
            go_meet
            exact ⟨rfl, [], none, rfl, rfl, HALL.out⟩
          | t' :: c'', hc', HALL, hlen =>
            have hcw := hc'
            obtain ⟨q, p', v', hq, hbq, htp, hcc⟩ := hc'
            obtain ⟨o'', rfl⟩ := hcc.ptr.form
            obtain rfl : o' = some ⟨q, 0, none⟩ := by injection hq
            clear hq
            have q0 : _ = some (Value.pointer (some ⟨p', 0, none⟩)) := hbq.cell 0
            have q1 : _ = some (Value.pointer o'') := hbq.cell 1
            obtain ⟨z, hz⟩ : ∃ z, null t' = z := ⟨_, rfl⟩
            have hnul := nullable_calls t' p' _ htp
            rw [hz] at hnul
            have HN := Lib.hid hnul
            have HZ := Lib.hid hz
            clear hnul hz
            go_wp2_with fail
            refine HN.out.mono ?_
            rintro e' w3 ⟨rfl, rfl⟩
            cases z with
            | false =>
              go_wp2_with fail
              go_meet
              exact ⟨rfl, t' :: c'', _, rfl, hcw, by rw [HALL.out, List.all_cons, HZ.out]; rfl⟩
            | true =>
              go_wp2_with fail
              go_roundg c''.length
              case measure => simp at hlen; omega
              case rel => exact ⟨rfl, c'', o'', rfl, Nat.le_refl _, hcc, by rw [HALL.out, List.all_cons, HZ.out, Bool.true_and]⟩
      case rest =>
        obtain ⟨rfl, c', o', rfl, hc', hall⟩ := hcut
        have HALL := Lib.hid hall
        clear hall
        match c', hc', HALL with
        | [], hc', HALL =>
          obtain rfl : o' = none := by have h : Value.pointer o' = .pointer none := hc'; injection h
          go_wp2_with fail
          go_ret
          exact ⟨ret_bool (HR.out.2 ⟨c0, hc0, HALL.out⟩).symm, hM1.below⟩
        | t' :: c'', hc', HALL =>
          obtain ⟨q, p', v', hq, _, _, _⟩ := hc'
          obtain rfl : o' = some ⟨q, 0, none⟩ := by injection hq
          clear hq
          go_wp2_with fail
          go_roundg (leftOf es (seen.push e.born)).size
          case measure => have := HSH.out; omega
          case rel =>
            refine ⟨seen.push e.born, Nat.le_refl _, hM1, fun e' he' hs c hc => ?_⟩
            rw [contains_push, Bool.or_eq_true] at hs
            rcases hs with hs | hs
            · exact HCM.out e' he' hs c hc
            · have hbe : e' = e := born_inj HST.out.2.1 he' HEL.out (by simpa using hs)
              subst hbe
              rw [HO.out] at hc
              rw [ChainIs.one hc hch, HALL.out]
              rfl
end Go.Proofs.Ytlmnincllndpnaa
