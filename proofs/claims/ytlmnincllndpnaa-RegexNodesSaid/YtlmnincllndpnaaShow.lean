/- The walk of regex.Show. -/
import Derived.Test.YtlmnincllndpnaaShowWalks
import Derived.Test.YtlmnincllndpnaaDerWalksA
namespace Go.Proofs.Ytlmnincllndpnaa
open Go.RowKit
attribute [local go_sem ↓] Go.wp_at_zero Go.wp_at_succ
attribute [local go_sem] Later.cell Later.frozen

def ShowOk (t : Tr) : Prop := ∀ (p : Nat) (w : World), TreeIs w t p → (showT t).length ≤ 1000000000 →
  Calls Try.prog 18 #[.pointer (some ⟨p, 0, none⟩)] w fun e w' => e = .returned (.string ⟨(showT t).toArray⟩) ∧ Below w.heap.size w w'

/-- What a node's text is, by its kind. -/
def KindOut (kd : Int) (v : Nat) (ts : List Tr) (out : List UInt8) : Prop :=
  (kd = 0 ∧ ts = [] ∧ out = [101]) ∨ (kd = 1 ∧ ts = [] ∧ out = strT v) ∨ (kd = 2 ∧ ∃ a b, ts = [a, b] ∧ out = 40 :: (showT a ++ showT b ++ [41])) ∨ (kd = 3 ∧ ∃ a b, ts = [a, b] ∧ out = 40 :: (showT a ++ 124 :: showT b ++ [41])) ∨
  (∃ a, ts = [a] ∧ ((kd = 4 ∧ out = showT a ++ [42]) ∨ (kd = 5 ∧ out = showT a ++ [43]) ∨ (kd = 6 ∧ out = showT a ++ [63])))

def txt (t : Tr) : ByteArray := ⟨(showT t).toArray⟩
theorem txt_size (t : Tr) : (txt t).size = (showT t).length := by simp [txt, ByteArray.size]

set_option maxRecDepth 100000 in
set_option maxHeartbeats 2000000 in
theorem show_gen (kd : Int) (v : Nat) (A : Option Addr) (n c : Nat) (ps : List Nat) (ts : List Tr) (out : List UInt8) (p : Nat) (w : World) (hp : Blk w p 52 (nodeCells kd v (.slice A n c)))
    (hE : Elems w w.heap.size 1 (fun q => [Value.pointer (some ⟨q, 0, none⟩)]) A n ps) (hl : ts.length = n) (hn : n ≤ 2) (hT : ∀ (i : Nat) (t : Tr) (q : Nat), ts[i]? = some t → ps[i]? = some q → TreeIs w t q) (ih : ∀ t ∈ ts, ShowOk t)
    (hz : ∀ t ∈ ts, (showT t).length ≤ 1000000000) (ho : KindOut kd v ts out) :
    Calls Try.prog 18 #[.pointer (some ⟨p, 0, none⟩)] w fun e w' => e = .returned (.string ⟨out.toArray⟩) ∧ Below w.heap.size w w' := by
  obtain ⟨i0, hi0, hz0, hz1, hz2⟩ := info_parts info_str
  have IH := Lib.hid ih
  have HT := Lib.hid hT
  have HZ := Lib.hid hz
  have HO := Lib.hid ho
  have HL := Lib.hid hl
  have c5 : _ = some (Value.slice A n c) := hp.cell 5
  have hpl := hE.len
  have HPL := Lib.hid hpl
  clear ih hT hz ho hl hpl
  go_enter Try.func18, Try.ntmps18
  go_upto_block 0 with fail
  go_cut [3] (fun s3 wz => wz.ownsRow w.heap.size 9 1 s3 ts.length ((ts.map txt).map Value.string) ∧ Below w.heap.size w wz)
  case first =>
    go_wp2_with fail
    go_loopg [3, 13] n (fun g s3 s13 wr => ∃ k : Nat, k + g = n ∧ s13 = .int .i64 (k : Nat) ∧ wr.ownsRow w.heap.size 9 1 s3 k (((ts.take k).map txt).map Value.string) ∧ Below w.heap.size w wr)
    case atStart => exact ⟨0, by omega, rfl, World.ownsRow_nil _ _ _ _, Below.refl _ _⟩
    case round =>
      obtain ⟨k, hkg, rfl, hown, hb⟩ := hrel
      have HKG := Lib.hid hkg
      clear hkg
      by_cases hk : k < n
      · obtain ⟨bk, off, rfl, hbk, hcell⟩ := hE.2 (by omega)
        obtain ⟨q, hq⟩ : ∃ q, ps[k]? = some q := ⟨_, List.getElem?_eq_getElem (by have := HPL.out; omega)⟩
        obtain ⟨t, ht⟩ : ∃ t, ts[k]? = some t := ⟨_, List.getElem?_eq_getElem (by have := HL.out; omega)⟩
        have htm : t ∈ ts := List.mem_of_getElem? ht
        have hqc : wr.cell? ⟨bk, off + k, none⟩ = some (.pointer (some ⟨q, 0, none⟩)) := by
          have := hcell k q hq 0 _ rfl
          simp at this
          exact (hb.cell (p := ⟨bk, off + k, none⟩) hbk).trans this
        have htr : TreeIs wr t q := (HT.out k t q ht hq).keep (fun _ _ _ hx => hx.below hb hx.lt)
        have hcall := IH.out t htm q wr htr (HZ.out t htm)
        have HC := Lib.hid hcall
        have Ht := Lib.hid ht
        clear hcall ht hq hcell
        go_wp2_with fail
        refine HC.out.mono ?_
        rintro e w1 ⟨rfl, hb1⟩
        have hown1 := own_later hown hb1
        have hB1 : Below w.heap.size w w1 := hb.trans (hb1.mono hb.size)
        have hsz1 := hB1.size
        clear HC hown hb hb1 hqc htr
        go_wp2_with (at_builtin; refine wpList_append_own_at _ rfl _ _ 70 rfl w.heap.size 9 i0 (.string ⟨#[]⟩) 1 16 Try.underlying70 hi0 hz0 hz1 hz2 rfl (by decide) _ _ _ rfl (hown1.alloc _) ⟨w1.heap.size, 0, none⟩ 1 1 [.string (txt t)] rfl rfl ?c1 ?c2 ?c3 ?c4 ?c5 ?_)
        case c1 => exact news_of_blk (l := [.string (txt t)]) (Blk.new _ _ _)
        case c2 => intro u hu; simp at hu; subst hu; rfl
        case c3 => unfold maxLen; omega
        case c4 => omega
        case c5 => simp; omega
        rintro v' w5 hown2 hg2 _ hat
        have hB5 : Below w.heap.size w w5 := ((Kept.of_below (ex := []) (hB1.alloc hsz1 _)).grown hg2 (by simp; omega) (fun k hk => by have := hown1.lt k hk; right; omega)).below (by simp)
        clear hg2 hat hown1
        go_wp2_with fail
        go_roundg (gk - 1)
        case measure => have := HKG.out; omega
        case rel =>
          refine ⟨k + 1, by have := HKG.out; omega, by go_num, ?_, hB5⟩
          rw [List.take_add_one, Ht.out]
          simpa using hown2
      · obtain rfl : k = n := by have := HKG.out; omega
        go_wp2_with fail
        go_meet
        refine ⟨?_, hb⟩
        rw [HL.out]
        rw [List.take_of_length_le (by rw [HL.out]; exact Nat.le_refl _)] at hown
        exact hown
  case rest =>
    obtain ⟨hown, hb⟩ := hcut
    have hp1 := hp.below hb hp.lt
    have d0 : _ = some (Value.int .i64 kd) := hp1.cell 0
    have d1 : _ = some (Value.int .u64 (word v 0)) := hp1.cell 1
    have d2 : _ = some (Value.int .u64 (word v 1)) := hp1.cell 2
    have d3 : _ = some (Value.int .u64 (word v 2)) := hp1.cell 3
    have d4 : _ = some (Value.int .u64 (word v 3)) := hp1.cell 4
    obtain ⟨wy, rfl⟩ : ∃ x, x = wc := ⟨_, rfl⟩
    clear c5
    rcases HO.out with ⟨rfl, hts, rfl⟩ | ⟨rfl, hts, rfl⟩ | ⟨rfl, a, b, hts, ho⟩ | ⟨rfl, a, b, hts, ho⟩ | ⟨a, hts, ho⟩
    · clear HO
      go_wp2_with fail
      go_ret
      exact ⟨rfl, hb⟩
    · clear HO
      have hcall := stretches_calls v wy
      unfold setVal at hcall
      have HC := Lib.hid hcall
      clear hcall
      go_wp2_with fail
      refine HC.out.mono ?_
      rintro e w2 ⟨rfl, hb2⟩
      go_wp2_with fail
      go_ret
      exact ⟨rfl, then_ hb (hb2.mono (Nat.le_refl _))⟩
    · subst hts
      have ha := HZ.out a (by simp)
      have hbz := HZ.out b (by simp)
      obtain ⟨A', c', hv, hE', hge, hcap⟩ := Elems.of_own (enc := fun x : ByteArray => [Value.string x]) (sz := 1) (xs := [txt a, txt b]) (by intro x _; rfl) (flatMap_str _) hown rfl
      obtain ⟨bk, off, rfl, hbk, hcell⟩ := hE'.2 (by simp)
      subst hv
      have hcall := Try.strings_Join bk off c' [txt a, txt b] ⟨#[]⟩ wy (fun j x hj => by have := hcell j x hj 0 _ rfl; simpa using this) hbk (by simp) hcap (by simp [Lib.join, List.intercalate, txt]; omega)
      have hj : Lib.join ([txt a, txt b].map (·.data.toList)) (⟨#[]⟩ : ByteArray).data.toList = showT a ++ showT b := by simp [Lib.join, List.intercalate, txt]
      rw [hj] at hcall
      have hjl : (showT a ++ showT b).length ≤ 2000000000 := by simp; omega
      obtain ⟨J, hJ⟩ : ∃ J, showT a ++ showT b = J := ⟨_, rfl⟩
      rw [hJ] at hcall hjl ho
      have HC := Lib.hid hcall
      have HF := Lib.hid ho
      clear hcall hj hcell hE' hown HO IH HT HZ ho hJ
      go_wp2_with fail
      refine HC.out.mono ?_
      rintro e w2 ⟨rfl, hb2⟩
      go_wp2_with fail
      go_ret
      refine ⟨?_, then_ hb (hb2.mono (Nat.le_refl _))⟩
      rw [HF.out]
      refine congrArg (fun s => Ending.returned (Value.string s)) (mk_str ?_)
      simp
    · subst hts
      have ha := HZ.out a (by simp)
      have hbz := HZ.out b (by simp)
      obtain ⟨A', c', hv, hE', hge, hcap⟩ := Elems.of_own (enc := fun x : ByteArray => [Value.string x]) (sz := 1) (xs := [txt a, txt b]) (by intro x _; rfl) (flatMap_str _) hown rfl
      obtain ⟨bk, off, rfl, hbk, hcell⟩ := hE'.2 (by simp)
      subst hv
      have hcall := Try.strings_Join bk off c' [txt a, txt b] ⟨#[124]⟩ wy (fun j x hj => by have := hcell j x hj 0 _ rfl; simpa using this) hbk (by simp) hcap (by simp [Lib.join, List.intercalate, txt]; omega)
      have hj : Lib.join ([txt a, txt b].map (·.data.toList)) (⟨#[124]⟩ : ByteArray).data.toList = showT a ++ 124 :: showT b := by simp [Lib.join, List.intercalate, txt]
      rw [hj] at hcall
      have hjl : (showT a ++ 124 :: showT b).length ≤ 2000000001 := by simp; omega
      obtain ⟨J, hJ⟩ : ∃ J, showT a ++ 124 :: showT b = J := ⟨_, rfl⟩
      rw [hJ] at hcall hjl ho
      have HC := Lib.hid hcall
      have HF := Lib.hid ho
      clear hcall hj hcell hE' hown HO IH HT HZ ho hJ
      go_wp2_with fail
      refine HC.out.mono ?_
      rintro e w2 ⟨rfl, hb2⟩
      go_wp2_with fail
      go_ret
      refine ⟨?_, then_ hb (hb2.mono (Nat.le_refl _))⟩
      rw [HF.out]
      refine congrArg (fun s => Ending.returned (Value.string s)) (mk_str ?_)
      simp
    · subst hts
      have ha := HZ.out a (by simp)
      obtain ⟨A', c', hv, hE', hge, hcap⟩ := Elems.of_own (enc := fun x : ByteArray => [Value.string x]) (sz := 1) (xs := [txt a]) (by intro x _; rfl) (flatMap_str _) hown rfl
      obtain ⟨bk, off, rfl, hbk, hcell⟩ := hE'.2 (by simp)
      have hv' : u3 = .slice (some ⟨bk, off, none⟩) 1 c' := hv
      subst hv'
      have k0 : wy.cell? ⟨bk, off, none⟩ = some (.string (txt a)) := by
        have := hcell 0 (txt a) rfl 0 _ rfl
        simpa using this
      have htz : (txt a).size ≤ 1000000000 := by rw [txt_size]; exact ha
      clear hcell hE' hown HO IH HT HZ hge hcap
      rcases ho with ⟨hkd, ho⟩ | ⟨hkd, ho⟩ | ⟨hkd, ho⟩
      · subst hkd ho
        go_wp2_with fail
        go_ret
        refine ⟨congrArg (fun s => Ending.returned (Value.string s)) (mk_str ?_), hb⟩
        simp [txt]
      · subst hkd ho
        go_wp2_with fail
        go_ret
        refine ⟨congrArg (fun s => Ending.returned (Value.string s)) (mk_str ?_), hb⟩
        simp [txt]
      · subst hkd ho
        go_wp2_with fail
        go_ret
        refine ⟨congrArg (fun s => Ending.returned (Value.string s)) (mk_str ?_), hb⟩
        simp [txt]

theorem elems_two {w : World} {k pa pb : Nat} (hk : Blk w k 23 #[.pointer (some ⟨pa, 0, none⟩), .pointer (some ⟨pb, 0, none⟩)]) :
    Elems w w.heap.size 1 (fun q => [Value.pointer (some ⟨q, 0, none⟩)]) (some ⟨k, 0, none⟩) 2 [pa, pb] := by
  refine ⟨rfl, fun _ => ⟨k, 0, rfl, hk.lt, fun i x hx j v hv => ?_⟩⟩
  have hj : j = 0 := by have := (List.getElem?_eq_some_iff.1 hv).1; simpa using this
  subst hj
  simp at hv
  subst hv
  rw [hk.cell]
  match i, hx with
  | 0, hx => simp at hx; subst hx; rfl
  | 1, hx => simp at hx; subst hx; rfl
  | i + 2, hx => simp at hx
theorem elems_one {w : World} {k pa : Nat} (hk : Blk w k 23 #[.pointer (some ⟨pa, 0, none⟩)]) :
    Elems w w.heap.size 1 (fun q => [Value.pointer (some ⟨q, 0, none⟩)]) (some ⟨k, 0, none⟩) 1 [pa] := by
  refine ⟨rfl, fun _ => ⟨k, 0, rfl, hk.lt, fun i x hx j v hv => ?_⟩⟩
  have hj : j = 0 := by have := (List.getElem?_eq_some_iff.1 hv).1; simpa using this
  subst hj
  simp at hv
  subst hv
  rw [hk.cell]
  match i, hx with
  | 0, hx => simp at hx; subst hx; rfl
  | i + 1, hx => simp at hx
theorem trees_two {w : World} {a b : Tr} {pa pb : Nat} (ha : TreeIs w a pa) (hb : TreeIs w b pb) : ∀ (i : Nat) (t : Tr) (q : Nat), [a, b][i]? = some t → [pa, pb][i]? = some q → TreeIs w t q
  | 0, t, q, h1, h2 => by simp at h1 h2; subst h1 h2; exact ha
  | 1, t, q, h1, h2 => by simp at h1 h2; subst h1 h2; exact hb
  | i + 2, t, q, h1, _ => by simp at h1
theorem trees_one {w : World} {a : Tr} {pa : Nat} (ha : TreeIs w a pa) : ∀ (i : Nat) (t : Tr) (q : Nat), [a][i]? = some t → [pa][i]? = some q → TreeIs w t q
  | 0, t, q, h1, h2 => by simp at h1 h2; subst h1 h2; exact ha
  | i + 1, t, q, h1, _ => by simp at h1

theorem all_two {α : Type} {P : α → Prop} {a b : α} (ha : P a) (hb : P b) : ∀ t ∈ [a, b], P t := by
  intro t ht
  simp at ht
  rcases ht with h | h
  · rw [h]; exact ha
  · rw [h]; exact hb
theorem all_one {α : Type} {P : α → Prop} {a : α} (ha : P a) : ∀ t ∈ [a], P t := by
  intro t ht
  simp at ht
  rw [ht]; exact ha

theorem show_calls : ∀ t : Tr, ShowOk t
  | .empty => fun p w h hz => show_gen 0 0 none 0 0 [] [] _ p w h Elems.nil_ rfl (by omega) (by simp) (by simp) (by simp) (.inl ⟨rfl, rfl, rfl⟩)
  | .cls v => fun p w h hz => show_gen 1 v none 0 0 [] [] _ p w h.2 Elems.nil_ rfl (by omega) (by simp) (by simp) (by simp) (.inr (.inl ⟨rfl, rfl, rfl⟩))
  | .cat a b => fun p w h hz => by
    obtain ⟨k, pa, pb, ha, hb, hk, hp⟩ := h
    have la : (showT a).length ≤ 1000000000 := by simp [showT] at hz; omega
    have lb : (showT b).length ≤ 1000000000 := by simp [showT] at hz; omega
    exact show_gen 2 0 (some ⟨k, 0, none⟩) 2 2 [pa, pb] [a, b] _ p w hp (elems_two hk) rfl (by omega) (trees_two ha hb) (all_two (show_calls a) (show_calls b)) (all_two la lb) (.inr (.inr (.inl ⟨rfl, a, b, rfl, rfl⟩)))
  | .alt a b => fun p w h hz => by
    obtain ⟨k, pa, pb, ha, hb, hk, hp⟩ := h
    have la : (showT a).length ≤ 1000000000 := by simp [showT] at hz; omega
    have lb : (showT b).length ≤ 1000000000 := by simp [showT] at hz; omega
    exact show_gen 3 0 (some ⟨k, 0, none⟩) 2 2 [pa, pb] [a, b] _ p w hp (elems_two hk) rfl (by omega) (trees_two ha hb) (all_two (show_calls a) (show_calls b)) (all_two la lb) (.inr (.inr (.inr (.inl ⟨rfl, a, b, rfl, rfl⟩))))
  | .star a => fun p w h hz => by
    obtain ⟨k, pa, ha, hk, hp⟩ := h
    have la : (showT a).length ≤ 1000000000 := by simp [showT] at hz; omega
    exact show_gen 4 0 (some ⟨k, 0, none⟩) 1 1 [pa] [a] _ p w hp (elems_one hk) rfl (by omega) (trees_one ha) (all_one (show_calls a)) (all_one la) (.inr (.inr (.inr (.inr ⟨a, rfl, .inl ⟨rfl, rfl⟩⟩))))
  | .plus a => fun p w h hz => by
    obtain ⟨k, pa, ha, hk, hp⟩ := h
    have la : (showT a).length ≤ 1000000000 := by simp [showT] at hz; omega
    exact show_gen 5 0 (some ⟨k, 0, none⟩) 1 1 [pa] [a] _ p w hp (elems_one hk) rfl (by omega) (trees_one ha) (all_one (show_calls a)) (all_one la) (.inr (.inr (.inr (.inr ⟨a, rfl, .inr (.inl ⟨rfl, rfl⟩)⟩))))
  | .quest a => fun p w h hz => by
    obtain ⟨k, pa, ha, hk, hp⟩ := h
    have la : (showT a).length ≤ 1000000000 := by simp [showT] at hz; omega
    exact show_gen 6 0 (some ⟨k, 0, none⟩) 1 1 [pa] [a] _ p w hp (elems_one hk) rfl (by omega) (trees_one ha) (all_one (show_calls a)) (all_one la) (.inr (.inr (.inr (.inr ⟨a, rfl, .inr (.inr ⟨rfl, rfl⟩)⟩))))

set_option maxHeartbeats 400000 in
theorem show_nil (w : World) : Calls Try.prog 18 #[.pointer none] w fun e w' => e = .returned (.string ⟨#[]⟩) ∧ w = w' := by
  go_enter Try.func18, Try.ntmps18
  go_wp2_with fail
  go_ret
  exact ⟨rfl, rfl⟩

def wake6T : Tr := .alt (.cls (putR 0 97 97)) (.cat (.cls (putR 0 98 98)) (.star (.cls (putR 0 99 99))))
theorem wake6_parses : Parses [97, 124, 98, 99, 42] (.ok wake6T) := ⟨by decide, 30, [], by rfl⟩
theorem wake6_shows : showT wake6T = [40, 91, 54, 49, 45, 54, 49, 93, 124, 40, 91, 54, 50, 45, 54, 50, 93, 91, 54, 51, 45, 54, 51, 93, 42, 41, 41] := by decide +kernel

set_option maxHeartbeats 400000 in
theorem wakes06_calls (w : World) : Calls Try.prog 17 #[] w fun e w' => e = .returned (.bool true) ∧ Below w.heap.size w w' := by
  go_enter Try.func17, Try.ntmps17
  go_wp2_with fail
  refine (parse_calls ⟨#[97, 124, 98, 99, 42]⟩ (.ok wake6T) wake6_parses w).mono ?_
  rintro e w1 ⟨p, rfl, ht, hb1⟩
  have ht1 := ht.is
  have hcall := show_calls wake6T p w1 ht1 (by rw [wake6_shows]; decide)
  rw [wake6_shows] at hcall
  have HC := Lib.hid hcall
  clear hcall
  go_wp2_with fail
  refine HC.out.mono ?_
  rintro e w2 ⟨rfl, hb2⟩
  go_wp2_with fail
  go_ret
  exact ⟨rfl, then_ hb1 hb2⟩
end Go.Proofs.Ytlmnincllndpnaa
