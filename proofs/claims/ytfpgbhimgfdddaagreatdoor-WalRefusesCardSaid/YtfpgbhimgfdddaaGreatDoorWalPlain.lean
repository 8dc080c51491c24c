/- The plain law of layer 16 (wal): the names of segments and their order; a directory of segments. No program in sight. -/
import Derived.Test.YtfpgbhimgfdddaaGreatDoorFrmPlain
import Derived.Test.YtfpgbhimgfdddaaGreatDoorWak17
set_option linter.unusedVariables false
set_option linter.unusedSimpArgs false
namespace Go.Proofs.YtfpgbhimgfdddaaGreatDoor

/-! ### names of segments -/
def sS : Txt := [115]
theorem lt_app_left {x y : Txt} (h : x < y) : ∀ l : Txt, l ++ x < l ++ y
  | [] => h
  | c :: l => List.cons_lt_cons_iff.2 (.inr ⟨rfl, lt_app_left h l⟩)
theorem lt_app_right : ∀ {l m : Txt}, l.length = m.length → l < m → ∀ x y : Txt, l ++ x < m ++ y
  | [], [], _, h, _, _ => absurd h (List.not_lt_nil _)
  | c :: l, e :: m, hl, h, x, y => by
    rcases List.cons_lt_cons_iff.1 h with h1 | ⟨h0, h1⟩
    · exact List.cons_lt_cons_iff.2 (.inl h1)
    · exact List.cons_lt_cons_iff.2 (.inr ⟨h0, lt_app_right (by simpa using hl) h1 x y⟩)
  | [], _ :: _, hl, _, _, _ => by simp at hl
  | _ :: _, [], hl, _, _, _ => by simp at hl
theorem padN_lt : ∀ {k a b : Nat}, a < b → b < 10 ^ k → padN k a < padN k b
  | 0, a, b, h, hb => by simp at hb; omega
  | k + 1, a, b, h, hb => by
    rw [padN, padN]
    rw [Nat.pow_succ] at hb
    by_cases h1 : a / 10 < b / 10
    · exact lt_app_right (by rw [padN_len, padN_len]) (padN_lt h1 (by omega)) _ _
    · have e : a / 10 = b / 10 := by omega
      rw [e]
      refine lt_app_left (List.cons_lt_cons_iff.2 (.inl ?_)) _
      rw [UInt8.lt_iff_toNat_lt, UInt8.toNat_ofNat', UInt8.toNat_ofNat']
      omega
theorem padN_inj {k a b : Nat} (ha : a < 10 ^ k) (hb : b < 10 ^ k) (h : padN k a = padN k b) : a = b := by
  rcases Nat.lt_trichotomy a b with h1 | h1 | h1
  · have := padN_lt h1 hb
    rw [h] at this
    exact absurd this (List.lt_irrefl _)
  · exact h1
  · have := padN_lt h1 ha
    rw [h] at this
    exact absurd this (List.lt_irrefl _)
theorem segT_good {n : Nat} (h1 : 1 ≤ n) (h2 : n ≤ 99999999) : nameT sS (n : Int) = sS ++ padN 8 n := by
  unfold nameT
  rw [if_neg (by omega)]
  rfl
theorem segT_inj {a b : Nat} (ha1 : 1 ≤ a) (ha2 : a ≤ 99999999) (hb1 : 1 ≤ b) (hb2 : b ≤ 99999999) (h : nameT sS (a : Int) = nameT sS (b : Int)) : a = b := by
  rw [segT_good ha1 ha2, segT_good hb1 hb2] at h
  exact padN_inj (k := 8) (by omega) (by omega) (List.append_cancel_left h)
theorem segT_lt {a b : Nat} (ha1 : 1 ≤ a) (h : a < b) (hb2 : b ≤ 99999999) : nameT sS (a : Int) < nameT sS (b : Int) := by
  rw [segT_good ha1 (by omega), segT_good (by omega) hb2]
  exact lt_app_left (padN_lt h (by omega)) _
theorem segT_len {n : Nat} (h1 : 1 ≤ n) (h2 : n ≤ 99999999) : (nameT sS (n : Int)).length = 9 := by
  rw [segT_good h1 h2, List.length_append, padN_len]
  rfl

/-! ### a directory of segments -/
/-- A segment: its number, its file's. -/
structure Sg where
  n : Nat
  i : Nat
def wP (dir : Txt) (n : Int) : Txt := dir ++ [47] ++ nameT sS n
def wThings (dir : Txt) (l : List Sg) : List Th := ⟨dir, true, 0⟩ :: l.map fun g => ⟨wP dir (g.n : Int), false, g.i⟩
structure SgOk (l : List Sg) : Prop where
  asc : l.Pairwise fun a b => a.n < b.n
  rng : ∀ g ∈ l, 1 ≤ g.n ∧ g.n ≤ 99999999
theorem wP_inj {dir : Txt} {a b : Nat} (ha1 : 1 ≤ a) (ha2 : a ≤ 99999999) (hb1 : 1 ≤ b) (hb2 : b ≤ 99999999) (h : wP dir (a : Int) = wP dir (b : Int)) : a = b :=
  segT_inj ha1 ha2 hb1 hb2 (List.append_cancel_left h)
theorem wP_dir (dir : Txt) (n : Int) : wP dir n ≠ dir := by
  intro h
  have := congrArg List.length h
  simp [wP] at this
theorem sg_find {dir : Txt} : ∀ {l : List Sg} {g : Sg}, SgOk l → g ∈ l → (l.map fun g => (⟨wP dir (g.n : Int), false, g.i⟩ : Th)).find? (fun x => x.path == wP dir (g.n : Int)) = some ⟨wP dir (g.n : Int), false, g.i⟩
  | x :: l, g, h, hg => by
    rcases List.mem_cons.1 hg with rfl | hg'
    · simp
    · have hx := h.rng x (List.mem_cons_self ..)
      have hgr := h.rng g hg
      have hlt := (List.pairwise_cons.1 h.asc).1 g hg'
      have hne : ¬ wP dir (x.n : Int) = wP dir (g.n : Int) := fun e => by
        have := wP_inj hx.1 hx.2 hgr.1 hgr.2 e
        omega
      rw [List.map_cons, List.find?_cons_of_neg (by simpa using hne)]
      exact sg_find ⟨(List.pairwise_cons.1 h.asc).2, fun y hy => h.rng y (List.mem_cons_of_mem _ hy)⟩ hg'
theorem w_find {dir : Txt} {l : List Sg} {g : Sg} (h : SgOk l) (hg : g ∈ l) : findT (wThings dir l) (wP dir (g.n : Int)) = some ⟨wP dir (g.n : Int), false, g.i⟩ := by
  unfold findT wThings
  rw [List.find?_cons_of_neg (by simpa using (wP_dir dir g.n).symm)]
  exact sg_find h hg
theorem w_none {dir : Txt} {l : List Sg} {n : Nat} (h : SgOk l) (h1 : 1 ≤ n) (h2 : n ≤ 99999999) (hn : ∀ g ∈ l, g.n ≠ n) : findT (wThings dir l) (wP dir (n : Int)) = none := by
  unfold findT wThings
  rw [List.find?_cons_of_neg (by simpa using (wP_dir dir n).symm), List.find?_eq_none]
  intro x hx
  obtain ⟨g, hg, rfl⟩ := List.mem_map.1 hx
  have hr := h.rng g hg
  simp only [beq_iff_eq]
  exact fun e => hn g hg (wP_inj hr.1 hr.2 h1 h2 e)
theorem w_finddir (dir : Txt) (l : List Sg) : findT (wThings dir l) dir = some ⟨dir, true, 0⟩ := by
  unfold findT wThings
  rw [List.find?_cons_of_pos (by simp)]
theorem ins_last {x : En} : ∀ {acc : List En}, (∀ y ∈ acc, ¬ x.name < y.name) → insE x acc = acc ++ [x]
  | [], _ => rfl
  | y :: acc, h => by
    rw [insE, if_neg (h y (List.mem_cons_self ..)), ins_last fun z hz => h z (List.mem_cons_of_mem _ hz)]
    rfl
theorem sort_asc : ∀ (l acc : List En), (acc ++ l).Pairwise (fun a b => a.name < b.name) → l.foldl (fun acc x => insE x acc) acc = acc ++ l
  | [], acc, _ => by simp
  | x :: l, acc, h => by
    have h1 : ∀ y ∈ acc, ¬ x.name < y.name := fun y hy hlt => by
      have := (List.pairwise_append.1 h).2.2 y hy x (List.mem_cons_self ..)
      exact absurd hlt (List.lt_asymm this)
    rw [List.foldl_cons, ins_last h1, sort_asc l (acc ++ [x]) (by simpa using h)]
    simp
theorem inside_wP (dir : Txt) (n : Int) : insideB (wP dir n) dir = true := by
  unfold insideB wP
  simp
theorem inside_self (dir : Txt) : insideB dir dir = false := by
  unfold insideB
  rw [Bool.eq_false_iff]
  intro h
  have := (List.isPrefixOf_iff_prefix.1 h).length_le
  simp only [List.length_append, List.length_cons, List.length_nil] at this
  omega
theorem w_list {d : Ds} {dir : Txt} {l : List Sg} (hoff : d.off = false) (hdir : nameB dir = true) (ht : d.things = wThings dir l) (h : SgOk l) :
    listD d dir = (l.map fun g => ⟨nameT sS (g.n : Int), false, (nowAt d g.i).length⟩, 0) := by
  have hne : dir ≠ [] := by
    rintro rfl
    simp [nameB] at hdir
  have hent : entD d dir = l.map fun g => ⟨nameT sS (g.n : Int), false, (nowAt d g.i).length⟩ := by
    unfold entD
    rw [ht]
    unfold wThings
    rw [List.filterMap_cons]
    simp only [hne, if_false, inside_self]
    rw [List.filterMap_map]
    have : ∀ g : Sg, ((fun x : Th => if insideB x.path dir = true then some (⟨x.path.drop (dir.length + 1), x.dir, if x.dir then 0 else (nowAt d x.at_).length⟩ : En) else none) ∘ fun g : Sg => (⟨wP dir (g.n : Int), false, g.i⟩ : Th)) g = some ⟨nameT sS (g.n : Int), false, (nowAt d g.i).length⟩ := fun g => by
      have e : (wP dir (g.n : Int)).drop (dir.length + 1) = nameT sS (g.n : Int) := by
        unfold wP
        exact List.drop_left' (by simp)
      simp only [Function.comp, inside_wP, if_true, e]
      rfl
    simp only [Function.comp_def] at this ⊢
    simp only [this]
    exact List.filterMap_eq_map' |>.symm ▸ rfl
  unfold listD
  rw [hoff, ht]
  have h2 : isT (wThings dir l) dir = 2 := by unfold isT; rw [w_finddir]; rfl
  simp only [hdir, h2, hent]
  simp
  unfold sortE
  rw [sort_asc _ []]
  · simp
  · rw [List.nil_append, List.pairwise_map]
    refine h.asc.imp_of_mem fun ha hb hab => ?_
    exact segT_lt (h.rng _ ha).1 hab (h.rng _ hb).2
end Go.Proofs.YtfpgbhimgfdddaaGreatDoor
