/- The walks of layer 5 (symbols): lists of texts; twin, Of. -/
import Derived.Test.YtpmahljbkgielaaLabWalksC
import Derived.Laws.AppendOwnNone
import Derived.Sort.OwnSorted
namespace Go.Proofs.Ytpmahljbkgielaa
open Go.RowKit Go.Sort
attribute [local go_sem ↓] Go.wp_at_zero Go.wp_at_succ
attribute [local go_sem] Later.cell Later.frozen

def txtV (s : Txt) : Value := .string ⟨s.toArray⟩
def enc1 (s : Txt) : List Value := [txtV s]
/-- The slice '.slice A n _' reads as the texts l. -/
def Strs (w : World) (A : Option Addr) (n : Nat) (l : List Txt) : Prop := Elems w w.heap.size 1 enc1 A n l
section
variable {w w' : World} {A : Option Addr} {n : Nat} {l : List Txt}
theorem Strs.below (h : Strs w A n l) (hb : Below w.heap.size w w') : Strs w' A n l := (Elems.below h hb).more hb.size
theorem Strs.len (h : Strs w A n l) : l.length = n := Elems.len h
theorem Strs.at_ (h : Strs w A n l) {i : Nat} (hi : i < n) : ∃ b off, A = some ⟨b, off, none⟩ ∧ b < w.heap.size ∧ w.cell? ⟨b, off + i, none⟩ = some (txtV l[i]!) := by
  obtain ⟨b, off, e, hb, hc⟩ := h.2 (by omega)
  have hl : i < l.length := by have := h.len; omega
  refine ⟨b, off, e, hb, ?_⟩
  have := hc i l[i]! (by rw [getElem!_pos l i hl, List.getElem?_eq_getElem hl]) 0 _ rfl
  simpa using this
theorem Strs.nil : Strs w A 0 [] := Elems.nil_
end
theorem enc_str (l : List Txt) : l.map encStr = l.flatMap enc1 := by
  induction l with
  | nil => rfl
  | cons x l ih => simp [enc1, txtV, ih]
theorem Strs.of_own {w : World} {base : Nat} {v : Value} {n : Nat} {l : List Txt} (h : w.ownsRow base 9 1 v n (l.map txtV)) (hn : l.length = n) : ∃ A c, v = .slice A n c ∧ Strs w A n l ∧ (∀ a, A = some a → base ≤ a.block) ∧ n ≤ c := by
  obtain ⟨A, c, h1, h2, h3, h4⟩ := Elems.of_own (enc := enc1) (xs := l) (fun _ _ => rfl) (by
    clear h hn
    induction l with
    | nil => rfl
    | cons x l ih => simp [enc1, ih]) h hn
  exact ⟨A, c, h1, h2, h3, h4⟩
theorem info_string : (Try.prog.info? 9).map (fun i => (i.zero, i.size, i.bytes)) = some (some (.string ⟨#[]⟩), 1, 16) := by kernel_rfl

def TwinOut (w : World) (l : List Txt) (e : Ending) (w' : World) : Prop :=
  ∃ A c, e = .returned (.slice A l.length c) ∧ Strs w' A l.length l ∧ l.length ≤ c ∧ Below w.heap.size w w' ∧ (∀ a, A = some a → w.heap.size ≤ a.block ∧ a.off = 0) ∧ (l ≠ [] → w'.ownsRow w.heap.size 9 1 (.slice A l.length c) l.length (l.map txtV))

theorem Strs.cells {w : World} {a : Addr} {n : Nat} {l : List Txt} (h : Strs w (some a) n l) : ∀ j u, (l.map txtV)[j]? = some u → w.cell? (a.add j) = some u := by
  intro j u hu
  have hj : j < l.length := by have := (List.getElem?_eq_some_iff.1 hu).1; simpa using this
  have hl := h.len
  obtain ⟨b, off, e, _, hc⟩ := h.at_ (i := j) (by omega)
  injection e with e
  subst e
  rw [Addr.add_lit, hc]
  rw [List.getElem?_map, List.getElem?_eq_getElem hj] at hu
  rw [getElem!_pos l j hj]
  exact hu
theorem txtV_one (l : List Txt) : ∀ u ∈ l.map txtV, u.oneCell' = true := by
  intro u hu
  obtain ⟨x, _, rfl⟩ := List.mem_map.1 hu
  rfl

set_option maxRecDepth 100000 in
set_option maxHeartbeats 400000 in
theorem twin_calls (l : List Txt) (A : Option Addr) (n c : Nat) (w : World) (h : Strs w A n l) (hA : A = none → c = 0) (hn : n * 16 ≤ 140737488351232) :
    Calls Try.prog 9 #[.slice A n c] w (TwinOut w l) := by
  obtain ⟨i0, hi0, hz0, hz1, hz2⟩ := info_parts info_string
  have hl := h.len
  cases A with
  | none =>
    have h0 : n = 0 := by
      rcases Nat.eq_zero_or_pos n with h0 | h0
      · exact h0
      · obtain ⟨b, off, e, _⟩ := h.2 h0; cases e
    subst h0
    obtain rfl := hA rfl
    obtain rfl : l = [] := List.eq_nil_of_length_eq_zero hl
    clear hl hA
    go_enter Try.func9, Try.ntmps9
    go_wp2_with (at_builtin; refine wpList_append_own_none rfl _ _ 22 rfl w.heap.size 9 i0 1 Try.underlying22 hi0 _ _ _ rfl (World.ownsRow_nil _ _ _ _) rfl ?_)
    go_ret
    exact ⟨none, 0, rfl, Strs.nil, Nat.le_refl _, Below.refl _ _, (fun a e => by cases e), fun e => absurd rfl e⟩
  | some a =>
    have hcells := h.cells
    have HC := Lib.hid hcells
    have HL := Lib.hid hl
    have HA := Lib.hid hA
    clear hl hcells hA
    go_enter Try.func9, Try.ntmps9
    go_wp2_with (at_builtin; refine wpList_append_own_at _ rfl _ _ 22 rfl w.heap.size 9 i0 (.string ⟨#[]⟩) 1 16 Try.underlying22 hi0 hz0 hz1 hz2 rfl (by decide) _ _ _ rfl (World.ownsRow_nil _ _ _ _) a n c (l.map txtV) rfl ?c0 ?c1 ?c2 ?c3 ?c4 ?c5 ?_)
    case c0 => rw [List.length_map, HL.out, Nat.mul_one]
    case c1 => exact HC.out
    case c2 => exact txtV_one l
    case c3 => unfold maxLen; omega
    case c4 => omega
    case c5 => exact Nat.le_refl _
    intro v' w1 hown0 hgrow hx hat
    have hown : w1.ownsRow w.heap.size 9 1 v' n (l.map txtV) := by simpa using hown0
    clear hown0
    have hb : Below w.heap.size w w1 := ⟨hgrow.os, hgrow.tape, hgrow.output, hgrow.size, fun k hk => hgrow.block k hk (fun e => by cases e)⟩
    obtain ⟨A', c', rfl, hs, hbase, hnc⟩ := Strs.of_own hown HL.out
    have hoff : ∀ a, A' = some a → a.off = 0 := by
      rintro a' rfl
      rcases hown.2 with ⟨e, _⟩ | ⟨g, cap, cur, e, _⟩
      · cases e
      · injection e with e _ _
        injection e with e
        rw [e]
    have hn' := HL.out
    subst hn'
    clear hgrow hx hat
    go_wp2_with fail
    go_ret
    exact ⟨A', c', rfl, hs, hnc, hb, fun a e => ⟨hbase a e, hoff a e⟩, fun _ => hown⟩

/-- The table at v has the texts t. -/
def TabAt (w : World) (v : Value) (t : List Txt) : Prop :=
  ∃ A n c, ((v = .pointer none ∧ A = none ∧ n = 0 ∧ c = 0) ∨ ∃ p, v = .pointer (some ⟨p, 0, none⟩) ∧ Blk w p 62 #[.slice A n c]) ∧ Strs w A n t ∧ n ≤ c
theorem TabAt.below {w w' : World} {v : Value} {t : List Txt} (h : TabAt w v t) (hb : Below w.heap.size w w') : TabAt w' v t := by
  obtain ⟨A, n, c, h1, h2, h3⟩ := h
  refine ⟨A, n, c, ?_, h2.below hb, h3⟩
  rcases h1 with h1 | ⟨p, h4, h5⟩
  · exact .inl h1
  · exact .inr ⟨p, h4, h5.below hb h5.lt⟩
theorem TabAt.none (w : World) : TabAt w (.pointer none) [] := ⟨_, 0, 0, .inl ⟨rfl, rfl, rfl, rfl⟩, Strs.nil, Nat.le_refl _⟩

theorem holds_own {w : World} {base g cap n : Nat} {ss : List Txt} (h : w.ownsRow base 9 1 (.slice (some ⟨g, 0, none⟩) n cap) n (ss.map txtV)) (hn : ss.length = n) : Holds encStr w g 0 ss.toArray := by
  rcases h.2 with ⟨e, _⟩ | ⟨g', cap', cur, e, _, hh, _, _, hsz, htk⟩
  · cases e
  · injection e with e _ _
    injection e with e
    injection e with e
    subst e
    intro j hj
    have hj' : j < ss.length := by simpa using hj
    refine ⟨?_, by simp [World.frozen?, hh]⟩
    rw [Nat.zero_add, cell_of_row w g j cur _ (0, 0) hh]
    have e1 : cur[j]? = (ss.map txtV)[j]? := by
      rw [← htk, List.getElem?_take_of_lt (by omega)]; simp
    rw [e1, List.getElem?_map, List.getElem?_eq_getElem hj']
    simp [getElem!_pos ss j hj', txtV]
theorem Strs.take_own {w : World} {base g cap n : Nat} {t r : List Txt} (h : w.ownsRow base 9 1 (.slice (some ⟨g, 0, none⟩) n cap) n ((t ++ r).map txtV)) (hn : (t ++ r).length = n) : Strs w (some ⟨g, 0, none⟩) t.length t := by
  obtain ⟨A, c, e, hs, _⟩ := Strs.of_own h hn
  injection e with e _ _
  subst e
  refine ⟨rfl, fun h0 => ?_⟩
  rw [List.length_append] at hn
  obtain ⟨b, off, e, hb, hc⟩ := hs.2 (by omega)
  exact ⟨b, off, e, hb, fun i x hx j v hv => hc i x (by rw [List.getElem?_append_left (List.getElem?_eq_some_iff.1 hx).1]; exact hx) j v hv⟩

def OfOut (w : World) (l : List Txt) (e : Ending) (w' : World) : Prop :=
  ∃ p t, e = .returned (.pointer (some ⟨p, 0, none⟩)) ∧ TabAt w' (.pointer (some ⟨p, 0, none⟩)) t ∧ IsTab l t ∧ t.length ≤ l.length ∧ Below w.heap.size w w' ∧ w.heap.size ≤ p

theorem compact_len (zs : List Txt) : (Lib.compact zs).length ≤ zs.length := Lib.compact_length_le zs
theorem own_grown {w w' : World} {B g : Nat} (hB : B ≤ w.heap.size) (hg : w.grownBy w' (some g)) (hgB : B ≤ g) : Below B w w' :=
  ⟨hg.os, hg.tape, hg.output, hg.size, fun k hk => hg.block k (by omega) (fun e => by injection e with e; omega)⟩

set_option maxRecDepth 100000 in
set_option maxHeartbeats 1000000 in
theorem of_calls (l : List Txt) (A : Option Addr) (n c : Nat) (w : World) (h : Strs w A n l) (hn : n * 16 ≤ 140737488351232) :
    Calls Try.prog 8 #[.slice A n c] w (OfOut w l) := by
  have hl := h.len
  by_cases h0 : n = 0
  · subst h0
    obtain rfl : l = [] := List.eq_nil_of_length_eq_zero hl
    have hclone : Calls Try.prog 29 #[.slice A 0 c] w fun e w' => ∃ A' c', e = .returned (.slice A' 0 c') ∧ Below w.heap.size w w' := by
      cases A with
      | none =>
        refine (Try.slices_Clone_string_nil 0 c w).mono ?_
        rintro e w' ⟨rfl, rfl⟩
        exact ⟨none, 0, rfl, Below.refl _ _⟩
      | some a =>
        refine (Try.slices_Clone_string_zero a c w).mono ?_
        rintro e w' ⟨v', rfl, ho, _, hb⟩
        rcases ho.2 with ⟨rfl, _⟩ | ⟨g, cap, cur, rfl, _⟩
        · exact ⟨none, 0, rfl, hb⟩
        · exact ⟨_, cap, rfl, hb⟩
    have HC := Lib.hid hclone
    clear hclone hl h
    go_enter Try.func8, Try.ntmps8
    go_wp2_with fail
    refine HC.out.mono ?_
    rintro e w1 ⟨A', c', rfl, hb1⟩
    go_wp2_with fail
    refine (Try.slices_Sort_string_none A' c' w1).mono ?_
    rintro e w2 ⟨rfl, rfl⟩
    go_wp2_with fail
    refine (Try.slices_Compact_string_empty A' c' w2).mono ?_
    rintro e w3 ⟨rfl, rfl⟩
    go_wp2_with fail
    go_ret
    exact ⟨_, [], rfl, ⟨A', 0, c', .inr ⟨_, rfl, Blk.new _ _ _⟩, Strs.nil, Nat.zero_le _⟩, IsTab.nil, Nat.le_refl _, hb1.alloc hb1.size _, hb1.size⟩
  · obtain ⟨b, off, rfl, hbl, _⟩ := h.2 (by omega)
    have hclone := Try.slices_Clone_string b off n c (l.map fun s => (⟨s.toArray⟩ : ByteArray)) w (by simp [hl]) (by omega) (fun j hj => by
      have hj' : j < l.length := by simpa using hj
      obtain ⟨b', off', e, _, hc⟩ := h.at_ (i := j) (by omega)
      injection e with e
      injection e with e1 e2
      subst e1 e2
      rw [hc, getElem!_pos l j hj']
      simp [txtV, List.getD, hj'])
    have hmap : ((l.map fun s => (⟨s.toArray⟩ : ByteArray)).take n).map Value.string = l.map txtV := by
      rw [List.take_of_length_le (by simp [hl]), List.map_map]; rfl
    rw [hmap] at hclone
    have HC := Lib.hid hclone
    have HL := Lib.hid hl
    have hn0 : 0 < n := by omega
    clear hclone hmap hl h0
    go_enter Try.func8, Try.ntmps8
    go_wp2_with fail
    refine HC.out.mono ?_
    rintro e w1 ⟨v', rfl, hown, hne, hb1⟩
    obtain ⟨g, cap, rfl, hgl⟩ : ∃ g cap, v' = .slice (some ⟨g, 0, none⟩) n cap ∧ n ≤ cap := by
      rcases hown.2 with ⟨rfl, _⟩ | ⟨g, cap, cur, rfl, _, _, hnc, _⟩
      · exact absurd rfl hne
      · exact ⟨g, cap, rfl, hnc⟩
    have hglt := hown.lt g rfl
    have hsort := Try.slices_Sort_string g 0 cap l w1 (holds_own hown HL.out) hglt.2 (by have := HL.out; omega)
    rw [HL.out] at hsort
    have HS := Lib.hid hsort
    clear hsort hne
    go_wp2_with fail
    refine HS.out.mono ?_
    rintro e w2 ⟨rfl, q, os, hw2⟩
    obtain ⟨z, hz⟩ : ∃ z, l.mergeSort (fun x y => decide (x ≤ y)) = z := ⟨_, rfl⟩
    rw [hz] at hw2
    have hzl : z.length = l.length := by rw [← hz, List.length_mergeSort]
    have hcur : ∃ cur, w1.heap[g]? = some (.cells cur 9 (0, 0)) ∧ cur.size = cap * 1 ∧ cap ≤ maxLen := by
      rcases hown.2 with ⟨e, _⟩ | ⟨g', cap', cur, e, _, hh, _, hcm, hsz, _⟩
      · cases e
      · injection e with e e2 e3
        injection e with e
        injection e with e
        subst e e3
        exact ⟨cur, hh, hsz, hcm⟩
    obtain ⟨cur, hcur1, hcur2, hcm⟩ := hcur
    have hown2 : w2.ownsRow w.heap.size 9 1 (.slice (some ⟨g, 0, none⟩) n cap) n (z.map txtV) := by
      have := ownsRow_sorted (n := q) (os := os) (ss := l) (ts := z) (base := w.heap.size) (cap := cap) hzl hglt.1 hcur1 (by have := HL.out; omega) hcm hcur2
      rw [← hw2, HL.out] at this
      exact this
    have hg2 : w1.grownBy w2 (some g) := by rw [hw2]; exact grownBy_sorted _
    have hb2 : Below w.heap.size w w2 := hb1.trans (own_grown hb1.size hg2 hglt.1)
    have HZ := Lib.hid hz
    have HZL := Lib.hid hzl
    clear hz hzl hw2 hcur1 hcur2 hown hg2 hb1 HS HC
    have hglt2 := hown2.lt g rfl
    have hcomp := Try.slices_Compact_string g 0 cap z w2 (holds_own hown2 (by rw [HZL.out, HL.out])) (by rw [HZL.out, HL.out]; omega) (by rw [HZL.out, HL.out]; exact hgl)
    rw [HZL.out, HL.out] at hcomp
    have HCO := Lib.hid hcomp
    clear hcomp
    go_wp2_with fail
    refine HCO.out.mono ?_
    rintro e w3 ⟨rfl, q3, hw3⟩
    obtain ⟨t, ht⟩ : ∃ t, Lib.compact z = t := ⟨_, rfl⟩
    have htl : t.length ≤ n := by rw [← ht]; have := compact_len z; rw [HZL.out, HL.out] at this; exact this
    have htab : IsTab l t := by rw [← ht, ← HZ.out]; exact tab_sort l
    rw [ht] at hw3 ⊢
    have hcur' : ∃ cur, w2.heap[g]? = some (.cells cur 9 (0, 0)) ∧ cur.size = cap * 1 := by
      rcases hown2.2 with ⟨e, _⟩ | ⟨g', cap', cur, e, _, hh, _, hcm, hsz, _⟩
      · cases e
      · injection e with e e2 e3
        injection e with e
        injection e with e
        subst e e3
        exact ⟨cur, hh, hsz⟩
    obtain ⟨cur2, hc1, hc2⟩ := hcur'
    have hown3 : w3.ownsRow w.heap.size 9 1 (.slice (some ⟨g, 0, none⟩) n cap) n ((t ++ List.replicate (n - t.length) []).map txtV) := by
      have := ownsRow_sorted (n := q3) (os := #[]) (ss := l) (ts := t ++ List.replicate (n - t.length) []) (base := w.heap.size) (cap := cap) (by have := HL.out; simp; omega) hglt.1 hc1 (by have := HL.out; omega) hcm hc2
      rw [grow_empty, ← hw3, HL.out] at this
      exact this
    have hg3 : w2.grownBy w3 (some g) := by
      have := grownBy_sorted (w := w2) (g := g) (n := q3) (os := #[]) (t ++ List.replicate (n - t.length) []).toArray
      rw [grow_empty, ← hw3] at this
      exact this
    have hb3 : Below w.heap.size w w3 := hb2.trans (own_grown hb2.size hg3 hglt.1)
    have hs3 : Strs w3 (some ⟨g, 0, none⟩) t.length t := Strs.take_own hown3 (by simp; omega)
    obtain ⟨m, hm⟩ : ∃ m, t.length = m := ⟨_, rfl⟩
    rw [hm] at hs3 ⊢
    have HM := Lib.hid hm
    have HTL := Lib.hid htl
    clear hw3 ht hown3 hg3 hc1 hc2 hb2 HCO hown2 hm htl
    go_wp2_with fail
    go_ret
    refine ⟨_, t, rfl, ⟨_, m, cap, .inr ⟨_, rfl, Blk.new _ _ _⟩, ?_, ?_⟩, htab, by rw [HL.out]; exact HTL.out, hb3.alloc hb3.size _, hb3.size⟩
    · exact hs3.below ((Below.refl _ _).alloc (Nat.le_refl _) _)
    · have := HM.out; have := HTL.out; omega
end Go.Proofs.Ytpmahljbkgielaa
