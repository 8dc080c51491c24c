/- Merged (what the claim wants of): DskWalksZ, DskList, DskListA, RdkWalksI, RdkWalksM. -/
import Derived.Test.YtfpgbhimgfdddaaGreatDoorWak12
set_option linter.unusedVariables false
set_option linter.unusedSimpArgs false
/- The walks of layer 3 (disk): entries sorted. -/
namespace Go.Proofs.YtfpgbhimgfdddaaGreatDoor
open Go.RowKit Go.Shelf Go.Maps Go.Sort
attribute [local go_sem ↓] Go.wp_at_zero Go.wp_at_succ
attribute [local go_sem] Later.cell Later.frozen

theorem cmp_neg : ∀ a b : Txt, Lib.compareBytes a b < 0 ↔ a < b
  | [], [] => by simp [Lib.compareBytes]
  | [], _ :: _ => by simp [Lib.compareBytes]
  | _ :: _, [] => by simp [Lib.compareBytes]
  | a :: p, b :: q => by
    rw [Lib.compareBytes, List.cons_lt_cons_iff]
    by_cases h1 : a < b
    · simp [h1]
    · rw [if_neg h1]
      by_cases h2 : b < a
      · rw [if_pos h2]
        have hne : a ≠ b := fun e => by subst e; exact UInt8.lt_irrefl _ h2
        simp [h1, hne]
      · rw [if_neg h2, cmp_neg p q]
        have he : a = b := UInt8.le_antisymm (UInt8.not_lt.1 h2) (UInt8.not_lt.1 h1)
        simp [h1, he]
def cfE (x y : En) : Int := Lib.compareBytes x.name y.name
theorem ltE (x y : En) : ltOf cfE x y = decide (x.name < y.name) := by
  unfold ltOf cfE
  rw [decide_eq_decide]
  exact cmp_neg _ _
theorem swoE : SWO (ltOf cfE) where
  irrefl x := by rw [ltE]; simp [List.lt_irrefl]
  trans x y z h1 h2 := by
    rw [ltE, decide_eq_true_eq] at h1 h2 ⊢
    exact List.lt_trans h1 h2
  ntrans x y z h1 h2 := by
    rw [ltE, decide_eq_false_iff_not] at h1 h2 ⊢
    exact List.not_lt.2 (List.le_trans (List.not_lt.1 h2) (List.not_lt.1 h1))
theorem encE_len (x : En) : (encE x).length = 3 := rfl
theorem encE_one (x : En) : ∀ v ∈ encE x, v.oneCell' = true := by
  intro v hv
  simp [encE] at hv
  rcases hv with rfl | rfl | rfl <;> rfl
theorem flatE_len (l : List En) : (l.flatMap encE).length = l.length * 3 := by
  induction l with
  | nil => rfl
  | cons x l ih => rw [List.flatMap_cons, List.length_append, ih, encE_len, List.length_cons]; omega
theorem flatE_get {l : List En} {t : Nat} (h : t < l.length * 3) : (l.flatMap encE)[t]? = some ((encE l[t / 3]!)[t % 3]!) := by
  have hl : t / 3 < l.length := by omega
  have h1 : l[t / 3]? = some l[t / 3]! := by rw [getElem!_pos l _ hl, List.getElem?_eq_getElem hl]
  have h2 := encE_at (t % 3) h1 (by omega)
  rw [show t / 3 * 3 + t % 3 = t by omega] at h2
  have h3 : t % 3 < (encE l[t / 3]!).length := by rw [encE_len]; omega
  rw [h2, List.getElem?_eq_getElem h3, getElem!_pos (encE l[t / 3]!) _ h3]
set_option maxHeartbeats 400000 in
theorem less_calls (x y : En) (W : World) :
    Calls Tryz.prog 84 #[.agg (encE x).toArray, .agg (encE y).toArray] W fun e w' => e = .returned (.int .i64 (cfE x y)) ∧ ∃ q os', w' = grow (W.drewN q) os' := by
  obtain ⟨xn, xd, xs⟩ := x
  obtain ⟨yn, yd, ys⟩ := y
  have hcon := fun W' => Tryz.strings_Compare ⟨xn.toArray⟩ ⟨yn.toArray⟩ W'
  simp only [List.toList_toArray] at hcon
  unfold cfE
  obtain ⟨r, hr⟩ : ∃ r, Lib.compareBytes xn yn = r := ⟨_, rfl⟩
  simp only [hr] at hcon ⊢
  have HC := Lib.hid hcon
  clear hcon hr
  unfold encE txtV
  obtain ⟨X, hX⟩ : ∃ X : ByteArray, (⟨xn.toArray⟩ : ByteArray) = X := ⟨_, rfl⟩
  obtain ⟨Y, hY⟩ : ∃ X : ByteArray, (⟨yn.toArray⟩ : ByteArray) = X := ⟨_, rfl⟩
  simp only [hX, hY] at HC ⊢
  clear hX hY
  go_enter Tryz.func84, Tryz.ntmps84
  go_wp2_with fail
  refine (HC.out _).mono ?_
  rintro e w' ⟨rfl, rfl⟩
  go_wp2_with fail
  go_ret
  exact ⟨rfl, 0, _, by rw [alloc_eq_grow, alloc_eq_grow, grow_grow]; rfl⟩
theorem grown_sortK {α : Type} [Inhabited α] (enc : α → List Value) (k : Nat) (w : World) (blk off n : Nat) (d : Array α) (os : Array Obj) : w.grownBy (sortWorldK enc k w blk off n d os) (some blk) := by
  refine ⟨rfl, rfl, rfl, ?_, ?_⟩
  · simp [sortWorldK, grow, putRowK, putRow, mapBlock, Sort.ahead]
  · intro j hj hne
    have hb : ¬ blk = j := fun e => hne (by rw [e])
    simp only [sortWorldK, grow, putRowK, putRow, mapBlock, Sort.ahead]
    rw [Array.getElem?_append_left (by simpa using hj), Array.getElem?_modify, if_neg hb]
def SortOut (w : World) (B g n cap : Nat) (l : List En) (e : Ending) (w' : World) : Prop :=
  e = .returned (.tuple #[]) ∧ ∃ l' : List En, l'.Perm l ∧ l'.Pairwise LeE ∧ w'.ownsRow B 167 3 (.slice (some ⟨g, 0, none⟩) n cap) n (l'.flatMap encE) ∧ w.grownBy w' (some g)
theorem sortent_calls (l : List En) (g cap n B : Nat) (w : World) (hown : w.ownsRow B 167 3 (.slice (some ⟨g, 0, none⟩) n cap) n (l.flatMap encE)) (hl : l.length = n) (hn : n ≤ 1073741824) :
    Calls Tryz.prog 83 #[.slice (some ⟨g, 0, none⟩) n cap, .func (.func 84) #[] #[]] w (SortOut w B g n cap l) := by
  have hlt := World.ownsRow.lt hown g rfl
  rcases hown.2 with ⟨he, _⟩ | ⟨g', cap', cur, he, h1, h2, h3, h4, h5, h6⟩
  · cases he
  · injection he with he _ hcc
    injection he with he
    injection he with he _ _
    subst he hcc
    have hH : HoldsK encE 3 w g 0 l.toArray := by
      intro t ht
      rw [size_flatK] at ht
      have ht' : t < l.length * 3 := by simpa using ht
      refine ⟨?_, by simp [World.frozen?, h2]⟩
      rw [get_flatK _ _ _ _ ht, Nat.zero_add, cell_of_row w g t cur _ (0, 0) h2]
      have e1 : cur[t]? = (l.flatMap encE)[t]? := by
        rw [← h6, List.getElem?_take_of_lt (by omega)]; simp
      rw [e1, flatE_get ht']
      simp only [List.getElem!_toArray, id]
    have eg : ∀ args w, (callFunc 84 args).run Tryz.prog w = .ok (.enter 84 args) w := enters_of Tryz.func84 (by kernel_rfl) rfl
    have hcon := AnyQ.slices_SortFunc Tryz.laysSFE 3 Tryz.isAgg167 Tryz.sizeOf167 encE encE_len encE_one cfE swoE 84 #[] g 0 cap l.toArray w eg (fun _ _ _ _ x y => less_calls x y _) hH hlt.2 (by simp; omega)
    simp only [List.size_toArray, hl] at hcon
    refine hcon.mono ?_
    rintro e w' ⟨rfl, d', m, os, hp, hs, rfl⟩
    obtain ⟨hsz, _, hpm⟩ := hp
    have hsz' : d'.size = n := by rw [hsz]; simpa using hl
    have hpm' : d'.toList.Perm l := by
      have e1 : (d'.extract 0 n) = d' := by rw [← hsz']; simp
      have e2 : (l.toArray.extract 0 n) = l.toArray := by rw [← hl]; simp
      rw [e1, e2] at hpm
      simpa using hpm
    refine ⟨rfl, d'.toList, hpm', ?_, ?_, grown_sortK _ _ _ _ _ _ _ _⟩
    · rw [List.pairwise_iff_getElem]
      intro i j hi hj hij
      have hi' : i < d'.size := by simpa using hi
      have hj' : j < d'.size := by simpa using hj
      have := hs i j (Nat.zero_le _) hij (by omega)
      rw [ltE, decide_eq_false_iff_not, getElem!_pos d' j hj', getElem!_pos d' i hi'] at this
      exact this
    · refine ⟨by rw [flatE_len]; simp [hsz'], .inr ⟨g, cap, putCells id 0 (flatK encE 3 d') cur, rfl, h1, ?_, h3, h4, by simp [putCells, h5], ?_⟩⟩
      · simp only [sortWorldK, grow, putRowK, putRow, mapBlock, Sort.ahead]
        rw [Array.getElem?_append_left (by simpa using hlt.2), Array.getElem?_modify, if_pos rfl, h2]
        rfl
      · apply List.ext_getElem?
        intro t
        by_cases ht : t < n * 3
        · rw [List.getElem?_take_of_lt ht, flatE_get (by simpa [hsz'] using ht)]
          have htc : t < cur.size := by rw [h5]; exact Nat.lt_of_lt_of_le ht (Nat.mul_le_mul_right 3 h3)
          have hts : t < (flatK encE 3 d').size := by rw [size_flatK, hsz']; exact ht
          simp only [putCells, Array.getElem?_toList, Array.getElem?_mapIdx, Array.getElem?_eq_getElem htc, Option.map_some]
          rw [if_pos ⟨Nat.zero_le _, by simpa using hts⟩, Nat.sub_zero, get_flatK _ _ _ _ (by rw [hsz']; exact ht)]
          congr 2
          have hq : t / 3 < d'.size := by omega
          rw [getElem!_pos d' _ hq, getElem!_pos d'.toList _ (by simpa using hq)]
          simp
        · rw [List.getElem?_eq_none (by rw [List.length_take]; omega), List.getElem?_eq_none (by rw [flatE_len]; simp [hsz']; omega)]
end Go.Proofs.YtfpgbhimgfdddaaGreatDoor

/- Layer 3 (disk): what a directory lists, entry by entry. No walk. -/
namespace Go.Proofs.YtfpgbhimgfdddaaGreatDoor
open Go.RowKit Go.Shelf Go.Maps Go.Sort

theorem perm_of {out tgt : List En} (h1 : (out.map En.name).Nodup) (h2 : (tgt.map En.name).Nodup) (h : ∀ e, e ∈ out ↔ e ∈ tgt) : out.Perm tgt :=
  (List.perm_ext_iff_of_nodup (nodup_of_map h1) (nodup_of_map h2)).2 h
theorem left_step (left : Lit → Bool) (k z : Txt) : (left (.string z) && !(Lit.string z).sameKey (.string k)) = false ↔ (left (.string z) = false ∨ z = k) := by
  cases h1 : left (.string z) with
  | false => simp
  | true =>
    rw [Bool.true_and]
    constructor
    · intro h2
      right
      exact same_str.1 (by simpa using h2)
    · rintro (h2 | h2)
      · cases h2
      · rw [same_str.2 h2]; rfl
/-- The directories that have been visited. -/
def Inv1 (l : List Th) (left : Txt → Bool) (out : List En) : Prop :=
  (out.map En.name).Nodup ∧ ∀ e, e ∈ out ↔ ∃ x ∈ l, x.dir = true ∧ left x.path = false ∧ e = ⟨x.path, true, 0⟩
/-- .. and the files. -/
def Inv2 (d : Ds) (l : List Th) (left : Txt → Bool) (out : List En) : Prop :=
  (out.map En.name).Nodup ∧ ∀ e, e ∈ out ↔ (∃ x ∈ l, x.dir = true ∧ e = ⟨x.path, true, 0⟩) ∨ ∃ x ∈ l, x.dir = false ∧ slashAt x.path = none ∧ left x.path = false ∧ e = ⟨x.path, false, (nowAt d x.at_).length⟩
section
variable {d : Ds} {l : List Th} {n : Nat} {left left' : Txt → Bool} {out : List En}
theorem Inv1.start (h : ∀ x ∈ l, x.dir = true → left x.path = true) : Inv1 l left [] := by
  refine ⟨by simp, fun e => ⟨fun h => by simp at h, ?_⟩⟩
  rintro ⟨x, hx, h1, h2, _⟩
  rw [h x hx h1] at h2
  cases h2
theorem Inv1.step (hw : TW n l) (h : Inv1 l left out) {k : Txt} (hk : ∃ x ∈ l, x.dir = true ∧ x.path = k) (hlk : left k = true) (hl : ∀ z, left' z = false ↔ (left z = false ∨ z = k)) : Inv1 l left' (out ++ [⟨k, true, 0⟩]) := by
  obtain ⟨y, hy, hyd, rfl⟩ := hk
  refine ⟨?_, fun e => ?_⟩
  · rw [List.map_append, List.nodup_append]
    refine ⟨h.1, by simp, ?_⟩
    intro a ha b hb e
    simp at hb
    subst hb e
    obtain ⟨e1, he1, hne⟩ := List.mem_map.1 ha
    obtain ⟨x, hx, _, hx2, rfl⟩ := (h.2 e1).1 he1
    simp only at hne
    rw [hne] at hx2
    rw [hx2] at hlk
    cases hlk
  · rw [List.mem_append, h.2 e, List.mem_singleton]
    constructor
    · rintro (⟨x, hx, h1, h2, rfl⟩ | rfl)
      · exact ⟨x, hx, h1, (hl _).2 (.inl h2), rfl⟩
      · exact ⟨y, hy, hyd, (hl _).2 (.inr rfl), rfl⟩
    · rintro ⟨x, hx, h1, h2, rfl⟩
      rcases (hl _).1 h2 with h3 | h3
      · exact .inl ⟨x, hx, h1, h3, rfl⟩
      · exact .inr (by rw [h3])
theorem Inv1.to_two (hw : TW n l) (h : Inv1 l left out) (h0 : ∀ x, left x = false) (hs : ∀ x ∈ l, x.dir = false → left' x.path = true) : Inv2 d l left' out := by
  refine ⟨h.1, fun e => ?_⟩
  rw [h.2 e]
  constructor
  · rintro ⟨x, hx, h1, _, rfl⟩; exact .inl ⟨x, hx, h1, rfl⟩
  · rintro (⟨x, hx, h1, rfl⟩ | ⟨x, hx, h1, _, h3, rfl⟩)
    · exact ⟨x, hx, h1, h0 _, rfl⟩
    · rw [hs x hx h1] at h3
      cases h3
theorem Inv2.step (hw : TW n l) (h : Inv2 d l left out) {x : Th} (hx : x ∈ l) (hd : x.dir = false) (hs : slashAt x.path = none) (hlk : left x.path = true) (hl : ∀ z, left' z = false ↔ (left z = false ∨ z = x.path)) : Inv2 d l left' (out ++ [⟨x.path, false, (nowAt d x.at_).length⟩]) := by
  refine ⟨?_, fun e => ?_⟩
  · rw [List.map_append, List.nodup_append]
    refine ⟨h.1, by simp, ?_⟩
    intro a ha b hb e
    simp at hb
    subst hb e
    obtain ⟨e1, he1, hne⟩ := List.mem_map.1 ha
    rcases (h.2 e1).1 he1 with ⟨y, hy, hyd, rfl⟩ | ⟨y, hy, hyd, _, hy2, rfl⟩
    · have := path_one hw.nodup hy hx hne
      rw [this, hd] at hyd
      cases hyd
    · simp only at hne
      rw [hne, hlk] at hy2
      cases hy2
  · rw [List.mem_append, h.2 e, List.mem_singleton]
    constructor
    · rintro ((h1 | ⟨y, hy, h1, h2, h3, rfl⟩) | rfl)
      · exact .inl h1
      · exact .inr ⟨y, hy, h1, h2, (hl _).2 (.inl h3), rfl⟩
      · exact .inr ⟨x, hx, hd, hs, (hl _).2 (.inr rfl), rfl⟩
    · rintro (h1 | ⟨y, hy, h1, h2, h3, rfl⟩)
      · exact .inl (.inl h1)
      · rcases (hl _).1 h3 with h4 | h4
        · exact .inl (.inr ⟨y, hy, h1, h2, h4, rfl⟩)
        · have := path_one hw.nodup hy hx h4
          subst this
          exact .inr rfl
theorem Inv2.skip (hw : TW n l) (h : Inv2 d l left out) {x : Th} (hx : x ∈ l) (hs : slashAt x.path ≠ none) (hl : ∀ z, left' z = false ↔ (left z = false ∨ z = x.path)) : Inv2 d l left' out := by
  refine ⟨h.1, fun e => ?_⟩
  rw [h.2 e]
  constructor
  · rintro (h1 | ⟨y, hy, h1, h2, h3, rfl⟩)
    · exact .inl h1
    · exact .inr ⟨y, hy, h1, h2, (hl _).2 (.inl h3), rfl⟩
  · rintro (h1 | ⟨y, hy, h1, h2, h3, rfl⟩)
    · exact .inl h1
    · rcases (hl _).1 h3 with h4 | h4
      · exact .inr ⟨y, hy, h1, h2, h4, rfl⟩
      · rw [h4] at h2
        exact absurd h2 hs
theorem Inv1.len (h : Inv1 l left out) : out.length ≤ l.length := by
  have := nodup_len (out.map En.name) (l.map Th.path) h.1 (fun z hz => by
    obtain ⟨e, he, rfl⟩ := List.mem_map.1 hz
    obtain ⟨x, hx, _, _, rfl⟩ := (h.2 e).1 he
    exact List.mem_map.2 ⟨x, hx, rfl⟩)
  simpa using this
theorem Inv2.len (h : Inv2 d l left out) : out.length ≤ l.length := by
  have := nodup_len (out.map En.name) (l.map Th.path) h.1 (fun z hz => by
    obtain ⟨e, he, rfl⟩ := List.mem_map.1 hz
    rcases (h.2 e).1 he with ⟨x, hx, _, rfl⟩ | ⟨x, hx, _, _, _, rfl⟩
    · exact List.mem_map.2 ⟨x, hx, rfl⟩
    · exact List.mem_map.2 ⟨x, hx, rfl⟩)
  simpa using this
theorem Inv2.all (hw : TW n d.things) (h : Inv2 d d.things left out) (h0 : ∀ x, left x = false) : out.Perm (entD d []) := by
  refine perm_of h.1 (entD_nodup hw.nodup []) fun e => ?_
  rw [h.2 e]
  unfold entD
  rw [List.mem_filterMap]
  constructor
  · rintro (⟨x, hx, h1, rfl⟩ | ⟨x, hx, h1, h2, _, rfl⟩)
    · refine ⟨x, hx, ?_⟩
      rw [if_pos rfl, nameB_slash (hw.dirs x hx h1), h1]
      rfl
    · refine ⟨x, hx, ?_⟩
      rw [if_pos rfl, h2, h1]
      rfl
  · rintro ⟨x, hx, h1⟩
    rw [if_pos rfl] at h1
    cases hs : slashAt x.path with
    | some k => rw [hs] at h1; simp at h1
    | none =>
      rw [hs] at h1
      simp only [Option.isSome_none, Bool.false_eq_true, if_false, Option.some.injEq] at h1
      cases hd : x.dir with
      | true => exact .inl ⟨x, hx, hd, by rw [← h1, hd]; rfl⟩
      | false => exact .inr ⟨x, hx, hd, hs, h0 _, by rw [← h1, hd]; rfl⟩
/-- The files in a directory. -/
theorem dir_perm (hw : TW n d.things) {dir : Txt} (hn : dir ≠ []) {bs : List Txt} (hnd : bs.Nodup) (g : Txt → Nat) (hbs : ∀ s, s ∈ bs ↔ ∃ x ∈ d.things, x.dir = false ∧ x.path = dir ++ [47] ++ s) (hg : ∀ x ∈ d.things, ∀ s, x.dir = false → x.path = dir ++ [47] ++ s → g s = (nowAt d x.at_).length) :
    (bs.map fun s => (⟨s, false, g s⟩ : En)).Perm (entD d dir) := by
  have e0 : ((bs.map fun s => (⟨s, false, g s⟩ : En)).map En.name) = bs := by rw [List.map_map]; exact List.map_id _
  refine perm_of (by rw [e0]; exact hnd) (entD_nodup hw.nodup dir) fun e => ?_
  unfold entD
  rw [List.mem_map, List.mem_filterMap]
  constructor
  · rintro ⟨s, hs, rfl⟩
    obtain ⟨x, hx, hd, hp⟩ := (hbs s).1 hs
    refine ⟨x, hx, ?_⟩
    rw [if_neg hn, if_pos (inside_iff.2 ⟨s, hp⟩), hd, hg x hx s hd hp]
    simp [hp]
  · rintro ⟨x, hx, h1⟩
    rw [if_neg hn] at h1
    split at h1
    · rename_i hin
      obtain ⟨s, hs⟩ := inside_iff.1 hin
      have hd : x.dir = false := by
        cases hd : x.dir with
        | false => rfl
        | true =>
          have := name_not_inside (d := dir) (hw.dirs x hx hd)
          rw [this] at hin
          cases hin
      refine ⟨s, (hbs s).2 ⟨x, hx, hd, hs⟩, ?_⟩
      injection h1 with h1
      rw [← h1, hd, hg x hx s hd hs]
      simp [hs]
    · cases h1
end
theorem listD_ok {d : Ds} {n : Nat} (hw : TW n d.things) {dir : Txt} {l : List En} (hp : l.Perm (entD d dir)) (hs : l.Pairwise LeE) : l = sortE (entD d dir) := sortE_one hw.nodup hp hs
end Go.Proofs.YtfpgbhimgfdddaaGreatDoor

/- The walks of layer 3 (disk): List at the root. -/
namespace Go.Proofs.YtfpgbhimgfdddaaGreatDoor
open Go.RowKit Go.Shelf Go.Maps Go.Sort
attribute [local go_sem ↓] Go.wp_at_zero Go.wp_at_succ
attribute [local go_sem] Later.cell Later.frozen

def EntRow (w : World) (B : Nat) (v : Value) (l : List En) : Prop := w.ownsRow B 167 3 v l.length (l.flatMap encE)
def ListOut (a : Nat → Addr) (r : List En × Nat) (s : ByteArray) (w : World) (e : Ending) (w' : World) : Prop :=
  ∃ v u, e = .returned (.tuple #[v, u]) ∧ ErrV a w' ⟨#[108, 105, 115, 116]⟩ s r.2 u ∧ EntRow w' w.heap.size v r.1 ∧ Below w.heap.size w w'
theorem info_cent : (Tryz.prog.info? 167).map (fun i => (i.zero, i.size, i.bytes)) = some (some (.agg #[.string ⟨#[]⟩, .bool false, .int .i64 0]), 3, 32) := by kernel_rfl
theorem ListOut.bad {a : Nat → Addr} {w w' : World} {s : ByteArray} {k : Nat} {u : Value} (hu : ErrV a w' ⟨#[108, 105, 115, 116]⟩ s k u) (hb : Below w.heap.size w w') : ListOut a ([], k) s w (.returned (.tuple #[.slice none 0 0, u])) w' := ⟨_, _, rfl, hu, World.ownsRow_nil _ _ _ _, hb⟩
theorem EntRow.slice {w : World} {B : Nat} {v : Value} {l : List En} (h : EntRow w B v l) : (l = [] ∧ v = .slice none 0 0) ∨ ∃ g c, v = .slice (some ⟨g, 0, none⟩) l.length c := by
  rcases h.2 with ⟨h1, h0⟩ | ⟨g, cap, cur, h1, _⟩
  · exact .inl ⟨List.eq_nil_of_length_eq_zero h0, h1⟩
  · exact .inr ⟨g, cap, h1⟩
/-- slices.SortFunc at whatever length. -/
def SortAny (w : World) (B : Nat) (v : Value) (l : List En) (e : Ending) (w' : World) : Prop :=
  e = .returned (.tuple #[]) ∧ ∃ l' : List En, l'.Perm l ∧ l'.Pairwise LeE ∧ EntRow w' B v l' ∧ w.grownBy w' v.ownBlock
theorem sortany_calls (l : List En) (B : Nat) (v : Value) (w : World) (h : EntRow w B v l) (hn : l.length ≤ 1073741824) :
    Calls Tryz.prog 83 #[v, .func (.func 84) #[] #[]] w (SortAny w B v l) := by
  rcases h.slice with ⟨rfl, rfl⟩ | ⟨g, c, rfl⟩
  · refine (AnyF.slices_SortFunc_none Tryz.laysSFE none 0 _ w).mono ?_
    rintro e w' ⟨rfl, rfl⟩
    exact ⟨rfl, [], .refl _, List.Pairwise.nil, h, ⟨rfl, rfl, rfl, Nat.le_refl _, fun _ _ _ => rfl⟩⟩
  · refine (sortent_calls l g c l.length B w h rfl hn).mono ?_
    rintro e w' ⟨rfl, l', h1, h2, h3, h4⟩
    refine ⟨rfl, l', h1, h2, ?_, h4⟩
    unfold EntRow
    rw [h1.length_eq]
    exact h3
theorem contains_slash (s : ByteArray) : (decide (0 ≤ Lib.indexByte s.data.toList 47)) = (slashAt s.data.toList).isSome := by
  rw [index_slash]
  cases slashAt s.data.toList with
  | none => rfl
  | some k => simp
section
variable {B0 : Nat} {a : Nat → Addr} {R : Nat → Nat} {A : Adr} {d : Ds}
set_option maxRecDepth 100000 in
set_option maxHeartbeats 8000000 in
theorem list_root (w : World) (h : CD B0 w R A d) (hf : Fit d) (hB : B0 ≤ w.heap.size) (hF : Fails B0 a w) (hnl : ∀ i, (fAt d i).now.length ≤ 1073741824) :
    Calls Tryz.prog 29 #[.pointer (some ⟨A.p, 0, none⟩), .string ⟨#[]⟩] w (ListOut a (listD d []) ⟨#[]⟩ w) := by
  obtain ⟨i0, hi0, hz0, hz1, hz2⟩ := info_parts info_cent
  obtain ⟨p, hp⟩ : ∃ p, A.p = p := ⟨_, rfl⟩
  have HP := Lib.hid hp
  have hoff : w.cell? ⟨p, 6, none⟩ = some (.bool d.off) := by rw [← hp]; exact Blk.cell h.blk 6
  obtain ⟨k, hk⟩ : ∃ k, readyR d.off true = k := ⟨_, rfl⟩
  have HK := Lib.hid hk
  have HRD := Lib.hid (ready_calls (B0 := B0) (a := a) p d.off true ⟨#[108, 105, 115, 116]⟩ ⟨#[]⟩ k hk w hoff hF)
  obtain ⟨LD, hLD⟩ : ∃ r, listD d [] = r := ⟨_, rfl⟩
  have hld : LD = if d.off = true then ([], 1) else (sortE (entD d []), 0) := by rw [← hLD]; unfold listD; simp
  have HLD := Lib.hid hld
  rw [hLD, hp]
  have HNL := Lib.hid hnl
  clear hk hp hoff hLD hld hnl
  go_enter Tryz.func29, Tryz.ntmps29
  go_wp2_with fail
  refine HRD.out.mono ?_
  rintro _ w1 ⟨v, rfl, hv1, hb1⟩
  cases k with
  | succ k =>
    have hfin : ListOut a LD ⟨#[]⟩ w (.returned (.tuple #[.slice none 0 0, v])) w1 := by
      have e1 : LD = ([], k + 1) := by
        have hk := HK.out
        unfold readyR at hk
        rw [HLD.out, ← hk]
        cases ho : d.off with
        | true => rfl
        | false => rw [ho] at hk; simp at hk
      rw [e1]
      exact ListOut.bad hv1 hb1
    obtain ⟨q4, rfl, _⟩ := hv1
    have HFIN := Lib.hid hfin
    clear hfin
    go_wp2_with fail
    go_ret2
    exact HFIN.out
  | zero =>
    obtain rfl : v = .nilIface := hv1
    have ho : d.off = false := by
      have hk := HK.out
      unfold readyR at hk
      cases ho : d.off with
      | true => rw [ho] at hk; simp at hk
      | false => rfl
    have hld : LD = (sortE (entD d []), 0) := by rw [HLD.out, ho]; rfl
    have HLE := Lib.hid hld
    have hcd1 := h.below hb1
    obtain ⟨md, hmd⟩ : ∃ x, A.md = x := ⟨_, rfl⟩
    obtain ⟨mf, hmf⟩ : ∃ x, A.mf = x := ⟨_, rfl⟩
    have c0 : w1.cell? ⟨p, 0, none⟩ = some (.map (some md)) := by rw [← HP.out, ← hmd]; exact Blk.cell hcd1.blk 0
    have c1 : w1.cell? ⟨p, 1, none⟩ = some (.map (some mf)) := by rw [← HP.out, ← hmf]; exact Blk.cell hcd1.blk 1
    have hsd : SM w1 md (dirF d.things) := by rw [← hmd]; exact hcd1.dirs.1
    have hsf : SM w1 mf (filF A.φ d.things) := by rw [← hmf]; exact hcd1.files.1
    have HCD1 := Lib.hid hcd1
    have HSF := Lib.hid hsf
    have HB1 := Lib.hid hb1
    have hpl : p < w1.heap.size := lt_of_cell c0
    have htl := hf.tl
    clear hcd1 hmd hmf hsf hld ho hb1
    obtain ⟨D, hown, hhas, hat⟩ := hsd
    have hsize := SMap.size_le Tryz.underlying9 hown (d.things.map Th.path) (fun x hx => dirF_in (by rw [← hhas]; exact hx))
    rw [List.length_map] at hsize
    have HHAS := Lib.hid hhas
    have hbl := hown.lt
    clear hhas hat
    go_upto_block 0 with fail
    go_cut [7] (fun s7 wz => ∃ v7 out, v7 = s7 ∧ EntRow wz w.heap.size v7 out ∧ out.Perm (entD d []) ∧ Below w.heap.size w wz)
    case first =>
      go_upto_block 3 with (at_range; refine wpList_range_own _ rfl _ 119 rfl 9 3 law3 Tryz.underlying119 HR md (Maps.size D) D rfl hown ?_; intro w0 hrg0 hg0 hs0)
      obtain ⟨r, hr⟩ : ∃ r, w1.heap.size = r := ⟨_, rfl⟩
      have hB0 : Below r w1 w0 := ⟨hg0.os, hg0.tape, hg0.output, hg0.size, fun k hk => hg0.block k (by omega) (by simp)⟩
      have HRS := Lib.hid hr
      rw [hr] at hrg0 ⊢
      clear hr hs0
      go_frame
      go_cut [7] (fun s7 wz => ∃ v7 out, v7 = s7 ∧ EntRow wz (r + 1) v7 out ∧ Inv1 d.things (fun _ => false) out ∧ Below r w1 wz)
      case first =>
        go_wp2_with fail
        go_loopg [7] (Maps.size D) (fun g s7 wr => ∃ (left : Lit → Bool) (cnt : Nat) (out : List En) (v7 : Value), v7 = s7 ∧ cnt ≤ g ∧ wr.ranges Tryz.prog 9 HR md r (Maps.size D) D left cnt ∧ EntRow wr (r + 1) v7 out ∧ Inv1 d.things (fun z => left (.string z)) out ∧ Below r w1 wr)
        case atStart =>
          refine ⟨Maps.has D, Maps.size D, [], _, rfl, Nat.le_refl _, hrg0, World.ownsRow_nil _ _ _ _, Inv1.start fun x hx hd => ?_, hB0⟩
          rw [HHAS.out x.path]
          exact dirF_some.2 ⟨x, hx, hd, rfl⟩
        case round =>
          obtain ⟨left, cnt, out, v7, rfl, hcg, hrg, hrow, hinv, hB⟩ := hrel
          have HINV := Lib.hid hinv
          have HROW := Lib.hid hrow
          have hol := hinv.len
          clear hinv
          go_wp2_with (at_next; refine wpList_next_ranges _ rfl _ rfl 9 law3 HR Value.string (fun v : Value => v) (fun key kl hk => by obtain ⟨x, e, _⟩ := Maps.keyOf_str Tryz.underlying9 hk; exact ⟨_, e⟩) (fun v _ _ => ⟨v, rfl⟩) md r (Maps.size D) D left cnt rfl hrg ?_ ?_)
          · intro hc0 hl0
            have hfin : Inv1 d.things (fun _ => false) out := by
              have h1 := HINV.out
              have e : (fun z : Txt => left (.string z)) = fun _ => false := by funext z; rw [hl0]
              rw [e] at h1
              exact h1
            have HFI := Lib.hid hfin
            clear hfin hc0 hl0
            go_wp2_with fail
            go_meet
            exact ⟨v7, out, rfl, HROW.out, HFI.out, hB⟩
          · intro x c kl y y2 w2 cnt2 hkx hlk hv hat2 hrg2 hlt hg2 hs2 hen
            clear hs2
            obtain ⟨k, e1, rfl, _⟩ := Maps.keyOf_str Tryz.underlying9 hkx
            have hxk : x.data.toList = k := by
              have : (Value.string x) = encStr k := e1
              unfold encStr at this
              injection this with this
              rw [this]
            have hfk : (dirF d.things k).isSome = true := by rw [← HHAS.out k]; exact Maps.has_true_of_atKey hat2
            have hB2 : Below r w1 w2 := hB.trans ⟨hg2.os, hg2.tape, hg2.output, hg2.size, fun j hj => hg2.block j (by have := hB.size; have := HRS.out; omega) (fun e => by injection e with e; omega)⟩
            have hrow2 : w2.ownsRow (r + 1) 167 3 v7 out.length (out.flatMap encE) := World.ownsRow.kept hrow hg2 (.inr fun e => by
              have := (World.ownsRow.lt hrow r e).1
              omega)
            have hinv2 : Inv1 d.things (fun z => left (.string z) && !(Lit.string z).sameKey (.string k)) (out ++ [⟨k, true, 0⟩]) := HINV.out.step hf.tw (dirF_some.1 hfk) hlk (fun z => left_step left k z)
            have henc : (out ++ [(⟨k, true, 0⟩ : En)]).flatMap encE = out.flatMap encE ++ [.string x, .bool true, .int .i64 0] := by
              rw [List.flatMap_append, ← hxk]
              simp [encE]
              unfold txtV
              rw [← bytes_of rfl]
            have HENC := Lib.hid henc
            have HINV2 := Lib.hid hinv2
            obtain ⟨m, hm⟩ : ∃ m, out.length = m := ⟨_, rfl⟩
            have HM := Lib.hid hm
            rw [hm] at hrow2 hol
            have hrl2 : r + 1 ≤ w2.heap.size := hrg2.lt
            clear henc hinv2 hm hfk hv hat2 hkx e1 hlk hg2 hrg hxk
            go_wp2_with (at_builtin; refine wpList_append_own_at _ rfl _ _ 73 rfl (r + 1) 167 i0 (.agg #[.string ⟨#[]⟩, .bool false, .int .i64 0]) 3 32 Tryz.underlying73 hi0 hz0 hz1 hz2 rfl (by decide) _ _ _ rfl (hrow2.alloc _) ⟨w2.heap.size, 0, none⟩ 1 1 [.string x, .bool true, .int .i64 0] rfl rfl ?p1 ?p2 ?p3 ?p4 ?p5 ?_)
            case p1 => exact news_of_blk (l := [.string x, .bool true, .int .i64 0]) (Blk.new w2 _ _)
            case p2 => intro u hu; simp at hu; rcases hu with rfl | rfl | rfl <;> rfl
            case p3 => unfold maxLen; omega
            case p4 => omega
            case p5 => simp; omega
            intro v' w4 hown' hgrow _ _
            have hall : w2.grownBy w4 v7.ownBlock := (World.grownBy_alloc w2 _ _).trans hgrow
            have hB4 : Below r w1 w4 := hB2.trans ⟨hall.os, hall.tape, hall.output, hall.size, fun j hj => hall.block j (by have := hB2.size; omega) (fun e => by have := (World.ownsRow.lt hrow2 j e.symm).1; omega)⟩
            have hrg4 := hrg2.kept hall (fun e => by have := (World.ownsRow.lt hrow2 md e.symm).1; have := HRS.out; omega) (fun e => by have := (World.ownsRow.lt hrow2 r e.symm).1; omega)
            have hrow4 : EntRow w4 (r + 1) v' (out ++ [⟨k, true, 0⟩]) := by
              unfold EntRow
              rw [HENC.out, List.length_append, HM.out]
              exact hown'
            clear hown' hgrow hall hrow2 hrg2
            go_wp2_with fail
            go_roundg (gk - 1)
            case measure => omega
            case rel => exact ⟨_, cnt2, _, _, rfl, by omega, hrg4, hrow4, HINV2.out, hB4⟩
      case rest =>
        obtain ⟨v7, out1, rfl, hrow, hinv, hB⟩ := hcut
        obtain ⟨w5, rfl⟩ : ∃ x, x = wc := ⟨_, rfl⟩
        have hsf5 := HSF.out.below (by rw [HRS.out]; exact hB) HSF.out.lt
        obtain ⟨D2, hown2, hhas2, hat2⟩ := hsf5
        have hsize2 := SMap.size_le Tryz.underlying9 hown2 (d.things.map Th.path) (fun x hx => filF_in (φ := A.φ) (by rw [← hhas2]; exact hx))
        rw [List.length_map] at hsize2
        have HHAS2 := Lib.hid hhas2
        have HAT2 := Lib.hid hat2
        have HINV1 := Lib.hid hinv
        have HROW1 := Lib.hid hrow
        have HB5 := Lib.hid hB
        have c1' : w5.cell? ⟨p, 1, none⟩ = some (.map (some mf)) := (hB.cell (p := ⟨p, 1, none⟩) (by rw [← HRS.out]; exact hpl)).trans c1
        have hmfl : mf < w1.heap.size := HSF.out.lt
        have hr5 : r ≤ w5.heap.size := by have := hB.size; have := HRS.out; omega
        clear hhas2 hat2 hinv hrow hB c0 c1 hrg0 hg0 hB0 hown
        go_upto_block 5 with (at_range; refine wpList_range_own _ rfl _ 120 rfl 9 140 law3 Tryz.underlying120 HR mf (Maps.size D2) D2 rfl hown2 ?_; intro w6 hrg6 hg6 hs6)
        obtain ⟨r2, hr2⟩ : ∃ r, w5.heap.size = r := ⟨_, rfl⟩
        have hB6 : Below r w1 w6 := HB5.out.trans ⟨hg6.os, hg6.tape, hg6.output, hg6.size, fun k hk => hg6.block k (by omega) (by simp)⟩
        have hrow6 : EntRow w6 (r + 1) v7 out1 := World.ownsRow.kept HROW1.out hg6 (by
          cases v7.ownBlock with
          | none => exact .inl rfl
          | some g => exact .inr (by simp))
        have hvr : ∀ g, v7.ownBlock = some g → g ≠ r2 := fun g hg => by have := (World.ownsRow.lt HROW1.out g hg).2; omega
        have HRS2 := Lib.hid hr2
        rw [hr2] at hrg6 ⊢
        clear hr2 hs6
        go_frame
        go_wp2_with fail
        go_loopg [7] (Maps.size D2) (fun g s7 wr => ∃ (left : Lit → Bool) (cnt : Nat) (out : List En) (v7 : Value), v7 = s7 ∧ cnt ≤ g ∧ wr.ranges Tryz.prog 9 HR mf r2 (Maps.size D2) D2 left cnt ∧ EntRow wr (r + 1) v7 out ∧ Inv2 d d.things (fun z => left (.string z)) out ∧ Below r w1 wr ∧ (∀ g, v7.ownBlock = some g → g ≠ r2))
        case atStart =>
          refine ⟨Maps.has D2, Maps.size D2, out1, _, rfl, Nat.le_refl _, hrg6, hrow6, HINV1.out.to_two hf.tw (fun _ => rfl) (fun x hx hd => ?_), hB6, hvr⟩
          rw [HHAS2.out x.path]
          exact Option.isSome_iff_exists.2 ⟨_, (filF_iff hf.tw.nodup).2 ⟨x, hx, hd, rfl, rfl⟩⟩
        case round =>
          obtain ⟨left, cnt, out, v7, rfl, hcg, hrg, hrow, hinv, hB, hvr⟩ := hrel
          have HINV := Lib.hid hinv
          have HROW := Lib.hid hrow
          have HVR := Lib.hid hvr
          have hol := hinv.len
          clear hinv hvr
          go_wp2_with (at_next; refine wpList_next_ranges _ rfl _ rfl 9 law3 HR Value.string (fun v : Value => v) (fun key kl hk => by obtain ⟨x, e, _⟩ := Maps.keyOf_str Tryz.underlying9 hk; exact ⟨_, e⟩) (fun v _ _ => ⟨v, rfl⟩) mf r2 (Maps.size D2) D2 left cnt rfl hrg ?_ ?_)
          · intro hc0 hl0
            have hfin : out.Perm (entD d []) := HINV.out.all hf.tw (fun x => by rw [hl0])
            have hB' : Below w.heap.size w wr := HB1.out.trans ((show Below w1.heap.size w1 wr by rw [HRS.out]; exact hB).mono HB1.out.size)
            have HFI := Lib.hid hfin
            have HB' := Lib.hid hB'
            have HRW := Lib.hid (show EntRow wr w.heap.size v7 out from World.ownsRow.mono HROW.out (by have := HB1.out.size; have := HRS.out; omega))
            clear hfin hc0 hl0 hB'
            go_wp2_with fail
            go_meet
            exact ⟨v7, out, rfl, HRW.out, HFI.out, HB'.out⟩
          · intro x c kl y y2 w2 cnt2 hkx hlk hv hat2 hrg2 hlt hg2 hs2 hen
            clear hs2
            obtain ⟨k, e1, rfl, _⟩ := Maps.keyOf_str Tryz.underlying9 hkx
            have hxk : x.data.toList = k := by
              have : (Value.string x) = encStr k := e1
              unfold encStr at this
              injection this with this
              rw [this]
            have hfk : (filF A.φ d.things k).isSome = true := by rw [← HHAS2.out k]; exact Maps.has_true_of_atKey hat2
            obtain ⟨v, hfv⟩ := Option.isSome_iff_exists.1 hfk
            have hcv : c = v := by
              have h1 := HAT2.out k v hfv (.held v)
              rw [hat2] at h1
              unfold HR at hv
              injection hv with hv
              injection hv with hv
              rw [← hv] at h1
              injection h1
            subst hcv
            obtain ⟨t, htm, htd, rfl, hct⟩ := (filF_iff hf.tw.nodup).1 hfv
            have hB2 : Below r w1 w2 := hB.trans ⟨hg2.os, hg2.tape, hg2.output, hg2.size, fun j hj => hg2.block j (by have := hB.size; have := HRS.out; omega) (fun e => by injection e with e; have := HRS2.out; omega)⟩
            have hi := hf.tw.ats t htm htd
            obtain ⟨u1, hblk1, _⟩ := file_at HCD1.out hi
            obtain ⟨g, hg⟩ : ∃ g, A.φ[t.at_]?.getD 0 = g := ⟨_, rfl⟩
            unfold fptr at hct
            rw [hg] at hblk1 hct
            subst hct
            obtain ⟨T, hT⟩ : ∃ T : ByteArray, (⟨(fAt d t.at_).now.toArray⟩ : ByteArray) = T := ⟨_, rfl⟩
            have hTs : (nowAt d t.at_).length = T.size := by rw [← hT]; rfl
            have hTz : T.size ≤ 1073741824 := by rw [← hTs]; exact HNL.out t.at_
            have hblk2 := hblk1.below hB2 (by have := hblk1.lt; have := HRS.out; omega)
            have f0 : w2.cell? ⟨g, 0, none⟩ = some (.string T) := by rw [← hT]; exact hblk2.cell 0
            have hrow2 : w2.ownsRow (r + 1) 167 3 v7 out.length (out.flatMap encE) := World.ownsRow.kept hrow hg2 (.inr fun e => HVR.out r2 e rfl)
            obtain ⟨cs, hcs⟩ : ∃ b, (slashAt t.path).isSome = b := ⟨_, rfl⟩
            have HCON := Lib.hid (fun w => Tryz.strings_Contains_one x 47 w)
            have hcd : decide (0 ≤ Lib.indexByte x.data.toList 47) = cs := by rw [contains_slash, hxk, hcs]
            rw [hcd] at HCON
            have HHRG := Lib.hid hrg2
            have HB2 := Lib.hid hB2
            have HR2 := Lib.hid hrow2
            have hls := fun z => left_step left t.path z
            cases cs with
            | true =>
              have hinv2 : Inv2 d d.things (fun z => left (.string z) && !(Lit.string z).sameKey (.string t.path)) out := HINV.out.skip hf.tw htm (by intro e; rw [e] at hcs; cases hcs) hls
              have HINV2 := Lib.hid hinv2
              clear hinv2 hblk1 hblk2 hT hg hi htm htd hfv hfk hv hat2 hkx e1 hlk hg2 hrg hxk hcs hcd hls hB2 hrow2 hrg2
              go_wp2_with fail
              refine (HCON.out _).mono ?_
              rintro e w3 ⟨rfl, rfl⟩
              go_wp2_with fail
              go_roundg (gk - 1)
              case measure => omega
              case rel => exact ⟨_, cnt2, out, _, rfl, by omega, HHRG.out, HR2.out, HINV2.out, HB2.out, HVR.out⟩
            | false =>
              have hs0 : slashAt t.path = none := by
                cases e : slashAt t.path with
                | none => rfl
                | some j => rw [e] at hcs; cases hcs
              have hinv2 : Inv2 d d.things (fun z => left (.string z) && !(Lit.string z).sameKey (.string t.path)) (out ++ [⟨t.path, false, (nowAt d t.at_).length⟩]) := HINV.out.step hf.tw htm htd hs0 hlk hls
              rw [hTs] at hinv2
              have henc : (out ++ [(⟨t.path, false, T.size⟩ : En)]).flatMap encE = out.flatMap encE ++ [.string x, .bool false, .int .i64 (T.size : Int)] := by
                rw [List.flatMap_append, ← hxk]
                simp [encE]
                unfold txtV
                rw [← bytes_of rfl]
              have HENC := Lib.hid henc
              have HINV2 := Lib.hid hinv2
              obtain ⟨m, hm⟩ : ∃ m, out.length = m := ⟨_, rfl⟩
              have HM := Lib.hid hm
              rw [hm] at hrow2 hol
              have hrl2 : r2 < w2.heap.size := hrg2.lt
              clear henc hinv2 hm hblk1 hblk2 hT hg hi htm htd hfv hfk hv hat2 hkx e1 hlk hg2 hrg hxk hcs hcd hls hs0 hrg2
              go_wp2_with fail
              refine (HCON.out _).mono ?_
              rintro e w3 ⟨rfl, rfl⟩
              have hrr : r + 1 ≤ w3.heap.size := by have := HRS2.out; omega
              go_wp2_with (at_builtin; refine wpList_append_own_at _ rfl _ _ 73 rfl (r + 1) 167 i0 (.agg #[.string ⟨#[]⟩, .bool false, .int .i64 0]) 3 32 Tryz.underlying73 hi0 hz0 hz1 hz2 rfl (by decide) _ _ _ rfl (hrow2.alloc _) ⟨w3.heap.size, 0, none⟩ 1 1 [.string x, .bool false, .int .i64 (T.size : Int)] rfl rfl ?p1 ?p2 ?p3 ?p4 ?p5 ?_)
              case p1 => exact news_of_blk (l := [.string x, .bool false, .int .i64 (T.size : Int)]) (Blk.new w3 _ _)
              case p2 => intro u hu; simp at hu; rcases hu with rfl | rfl | rfl <;> rfl
              case p3 => unfold maxLen; omega
              case p4 => omega
              case p5 => simp; omega
              intro v' w4 hown' hgrow _ hat'
              have hall : w3.grownBy w4 v7.ownBlock := (World.grownBy_alloc w3 _ _).trans hgrow
              have hB4 : Below r w1 w4 := HB2.out.trans ⟨hall.os, hall.tape, hall.output, hall.size, fun j hj => hall.block j (by have := HB2.out.size; have := HRS.out; omega) (fun e => by have := (World.ownsRow.lt hrow2 j e.symm).1; omega)⟩
              have hrg4 := HHRG.out.kept hall (fun e => by have := (World.ownsRow.lt hrow2 mf e.symm).1; have := HRS.out; omega) (fun e => HVR.out r2 e.symm rfl)
              have hrow4 : EntRow w4 (r + 1) v' (out ++ [⟨t.path, false, T.size⟩]) := by
                unfold EntRow
                rw [HENC.out, List.length_append, HM.out]
                exact hown'
              have hvr4 : ∀ g, v'.ownBlock = some g → g ≠ r2 := by
                intro g hg
                rcases hat' with h1 | h1
                · exact HVR.out g (by rw [← h1]; exact hg)
                · rw [h1] at hg
                  injection hg with hg
                  omega
              clear hown' hgrow hall hrow2 hat'
              go_wp2_with fail
              go_roundg (gk - 1)
              case measure => omega
              case rel => exact ⟨_, cnt2, _, _, rfl, by omega, hrg4, hrow4, HINV2.out, hB4, hvr4⟩
    case rest =>
      obtain ⟨v7, out, rfl, hrow, hperm, hB⟩ := hcut
      obtain ⟨w7, rfl⟩ : ∃ x, x = wc := ⟨_, rfl⟩
      have hol : out.length ≤ 1073741824 := by
        rw [hperm.length_eq]
        unfold entD
        have := List.length_filterMap_le (fun x : Th => if ([] : Txt) = [] then (if (slashAt x.path).isSome then none else some (⟨x.path, x.dir, if x.dir then 0 else (nowAt d x.at_).length⟩ : En)) else if insideB x.path [] then some ⟨x.path.drop (([] : Txt).length + 1), x.dir, if x.dir then 0 else (nowAt d x.at_).length⟩ else none) d.things
        omega
      have HSO := Lib.hid (sortany_calls out w.heap.size v7 w7 hrow hol)
      have HROW := Lib.hid hrow
      have HPM := Lib.hid hperm
      have HB := Lib.hid hB
      clear hrow hperm hB hown c0 c1 hol
      go_wp2_with fail
      refine HSO.out.mono ?_
      rintro e w8 ⟨rfl, l', hp', hs', hrow8, hg8⟩
      have hb8 : Below w.heap.size w w8 := by
        have hb := HB.out
        exact hb.trans ⟨hg8.os, hg8.tape, hg8.output, hg8.size, fun k hk => hg8.block k (by have := hb.size; omega) (fun e => by have := (World.ownsRow.lt HROW.out k e.symm).1; omega)⟩
      have hfin : ListOut a LD ⟨#[]⟩ w (.returned (.tuple #[v7, .nilIface])) w8 := by
        rw [HLE.out, ← listD_ok hf.tw (hp'.trans HPM.out) hs']
        exact ⟨_, _, rfl, rfl, hrow8, hb8⟩
      have HFIN := Lib.hid hfin
      clear hfin hb8 hrow8 hg8 hp' hs'
      go_wp2_with fail
      go_ret2
      exact HFIN.out
end
end Go.Proofs.YtfpgbhimgfdddaaGreatDoor

/- The walks of layer 3 (disk), the document's: List. -/
namespace Go.Proofs.YtfpgbhimgfdddaaGreatDoor
open Go.RowKit Go.Shelf Go.Maps Go.Sort
attribute [local go_sem ↓] Go.wp_at_zero Go.wp_at_succ
attribute [local go_sem] Later.cell Later.frozen

def entOf (d : Ds) (dir : Txt) (x : Th) : Option En :=
  if dir = [] then (if (slashAt x.path).isSome then none else some ⟨x.path, x.dir, if x.dir then 0 else (nowAt d x.at_).length⟩)
  else if insideB x.path dir then some ⟨x.path.drop (dir.length + 1), x.dir, if x.dir then 0 else (nowAt d x.at_).length⟩ else none
theorem entD_of (d : Ds) (dir : Txt) : entD d dir = d.things.filterMap (entOf d dir) := rfl

section
variable {B0 : Nat} {R : Nat → Nat} {A : RAdr} {d : Ds}

end
end Go.Proofs.YtfpgbhimgfdddaaGreatDoor
