/- Merged (what the claim wants of): RdkWalksL, DskWalksZ, DskList. -/
import Derived.Test.YtfpgbhimgfdddaaGreatDoorStk16
import Derived.Test.YtfpgbhimgfdddaaGreatDoorStk05
import Derived.Sort.Walk0
set_option linter.unusedVariables false
set_option linter.unusedSimpArgs false
/- The walks of layer 3 (disk), the document's: insert. -/
namespace Go.Proofs.YtfpgbhimgfdddaaGreatDoor
open Go.RowKit Go.Shelf Go.Maps Go.Sort
attribute [local go_sem ↓] Go.wp_at_zero Go.wp_at_succ
attribute [local go_sem] Later.cell Later.frozen

def encE (e : En) : List Value := [txtV e.name, .bool e.dir, .int .i64 (e.size : Int)]
theorem encE_at : ∀ {m : List En} {j : Nat} {e : En} (k : Nat), m[j]? = some e → k < 3 → (m.flatMap encE)[j * 3 + k]? = (encE e)[k]?
  | [], _, _, _, h, _ => by simp at h
  | f :: m, 0, e, k, h, hk => by
    simp at h
    subst h
    rw [List.flatMap_cons, Nat.zero_mul, Nat.zero_add, List.getElem?_append_left (by simpa [encE] using hk)]
  | f :: m, j + 1, e, k, h, hk => by
    rw [List.flatMap_cons, List.getElem?_append_right (by simp [encE]; omega)]
    rw [show (j + 1) * 3 + k - (encE f).length = j * 3 + k by simp [encE]; omega]
    exact encE_at k (by simpa using h) hk

end Go.Proofs.YtfpgbhimgfdddaaGreatDoor

/- The walks of layer 3 (disk): entries sorted. -/
namespace Go.Proofs.YtfpgbhimgfdddaaGreatDoor
open Go.RowKit Go.Shelf Go.Maps Go.Sort
attribute [local go_sem ↓] Go.wp_at_zero Go.wp_at_succ
attribute [local go_sem] Later.cell Later.frozen

theorem cmp_neg : ∀ a b : Txt, Lib.compareBytes a b < 0 ↔ a < b
  | [], [] => by simp [Lib.compareBytes]
  | [], _ :: _ => by simp [Lib.compareBytes]
  | _ :: _, [] => by simp [Lib.compareBytes]
  | a :: p, b :: q => by
    rw [Lib.compareBytes, List.cons_lt_cons_iff]
    by_cases h1 : a < b
    · simp [h1]
    · rw [if_neg h1]
      by_cases h2 : b < a
      · rw [if_pos h2]
        have hne : a ≠ b := fun e => by subst e; exact UInt8.lt_irrefl _ h2
        simp [h1, hne]
      · rw [if_neg h2, cmp_neg p q]
        have he : a = b := UInt8.le_antisymm (UInt8.not_lt.1 h2) (UInt8.not_lt.1 h1)
        simp [h1, he]
def cfE (x y : En) : Int := Lib.compareBytes x.name y.name
theorem ltE (x y : En) : ltOf cfE x y = decide (x.name < y.name) := by
  unfold ltOf cfE
  rw [decide_eq_decide]
  exact cmp_neg _ _
theorem swoE : SWO (ltOf cfE) where
  irrefl x := by rw [ltE]; simp [List.lt_irrefl]
  trans x y z h1 h2 := by
    rw [ltE, decide_eq_true_eq] at h1 h2 ⊢
    exact List.lt_trans h1 h2
  ntrans x y z h1 h2 := by
    rw [ltE, decide_eq_false_iff_not] at h1 h2 ⊢
    exact List.not_lt.2 (List.le_trans (List.not_lt.1 h2) (List.not_lt.1 h1))
theorem encE_len (x : En) : (encE x).length = 3 := rfl
theorem encE_one (x : En) : ∀ v ∈ encE x, v.oneCell' = true := by
  intro v hv
  simp [encE] at hv
  rcases hv with rfl | rfl | rfl <;> rfl
theorem flatE_len (l : List En) : (l.flatMap encE).length = l.length * 3 := by
  induction l with
  | nil => rfl
  | cons x l ih => rw [List.flatMap_cons, List.length_append, ih, encE_len, List.length_cons]; omega
theorem flatE_get {l : List En} {t : Nat} (h : t < l.length * 3) : (l.flatMap encE)[t]? = some ((encE l[t / 3]!)[t % 3]!) := by
  have hl : t / 3 < l.length := by omega
  have h1 : l[t / 3]? = some l[t / 3]! := by rw [getElem!_pos l _ hl, List.getElem?_eq_getElem hl]
  have h2 := encE_at (t % 3) h1 (by omega)
  rw [show t / 3 * 3 + t % 3 = t by omega] at h2
  have h3 : t % 3 < (encE l[t / 3]!).length := by rw [encE_len]; omega
  rw [h2, List.getElem?_eq_getElem h3, getElem!_pos (encE l[t / 3]!) _ h3]
set_option maxHeartbeats 400000 in
theorem less_calls (x y : En) (W : World) :
    Calls Tryz.prog 84 #[.agg (encE x).toArray, .agg (encE y).toArray] W fun e w' => e = .returned (.int .i64 (cfE x y)) ∧ ∃ q os', w' = grow (W.drewN q) os' := by
  obtain ⟨xn, xd, xs⟩ := x
  obtain ⟨yn, yd, ys⟩ := y
  have hcon := fun W' => Tryz.strings_Compare ⟨xn.toArray⟩ ⟨yn.toArray⟩ W'
  simp only [List.toList_toArray] at hcon
  unfold cfE
  obtain ⟨r, hr⟩ : ∃ r, Lib.compareBytes xn yn = r := ⟨_, rfl⟩
  simp only [hr] at hcon ⊢
  have HC := Lib.hid hcon
  clear hcon hr
  unfold encE txtV
  obtain ⟨X, hX⟩ : ∃ X : ByteArray, (⟨xn.toArray⟩ : ByteArray) = X := ⟨_, rfl⟩
  obtain ⟨Y, hY⟩ : ∃ X : ByteArray, (⟨yn.toArray⟩ : ByteArray) = X := ⟨_, rfl⟩
  simp only [hX, hY] at HC ⊢
  clear hX hY
  go_enter Tryz.func84, Tryz.ntmps84
  go_wp2_with fail
  refine (HC.out _).mono ?_
  rintro e w' ⟨rfl, rfl⟩
  go_wp2_with fail
  go_ret
  exact ⟨rfl, 0, _, by rw [alloc_eq_grow, alloc_eq_grow, grow_grow]; rfl⟩
theorem grown_sortK {α : Type} [Inhabited α] (enc : α → List Value) (k : Nat) (w : World) (blk off n : Nat) (d : Array α) (os : Array Obj) : w.grownBy (sortWorldK enc k w blk off n d os) (some blk) := by
  refine ⟨rfl, rfl, rfl, ?_, ?_⟩
  · simp [sortWorldK, grow, putRowK, putRow, mapBlock, Sort.ahead]
  · intro j hj hne
    have hb : ¬ blk = j := fun e => hne (by rw [e])
    simp only [sortWorldK, grow, putRowK, putRow, mapBlock, Sort.ahead]
    rw [Array.getElem?_append_left (by simpa using hj), Array.getElem?_modify, if_neg hb]
def SortOut (w : World) (B g n cap : Nat) (l : List En) (e : Ending) (w' : World) : Prop :=
  e = .returned (.tuple #[]) ∧ ∃ l' : List En, l'.Perm l ∧ l'.Pairwise LeE ∧ w'.ownsRow B 167 3 (.slice (some ⟨g, 0, none⟩) n cap) n (l'.flatMap encE) ∧ w.grownBy w' (some g)
theorem sortent_calls (l : List En) (g cap n B : Nat) (w : World) (hown : w.ownsRow B 167 3 (.slice (some ⟨g, 0, none⟩) n cap) n (l.flatMap encE)) (hl : l.length = n) (hn : n ≤ 1073741824) :
    Calls Tryz.prog 83 #[.slice (some ⟨g, 0, none⟩) n cap, .func (.func 84) #[] #[]] w (SortOut w B g n cap l) := by
  have hlt := World.ownsRow.lt hown g rfl
  rcases hown.2 with ⟨he, _⟩ | ⟨g', cap', cur, he, h1, h2, h3, h4, h5, h6⟩
  · cases he
  · injection he with he _ hcc
    injection he with he
    injection he with he _ _
    subst he hcc
    have hH : HoldsK encE 3 w g 0 l.toArray := by
      intro t ht
      rw [size_flatK] at ht
      have ht' : t < l.length * 3 := by simpa using ht
      refine ⟨?_, by simp [World.frozen?, h2]⟩
      rw [get_flatK _ _ _ _ ht, Nat.zero_add, cell_of_row w g t cur _ (0, 0) h2]
      have e1 : cur[t]? = (l.flatMap encE)[t]? := by
        rw [← h6, List.getElem?_take_of_lt (by omega)]; simp
      rw [e1, flatE_get ht']
      simp only [List.getElem!_toArray, id]
    have eg : ∀ args w, (callFunc 84 args).run Tryz.prog w = .ok (.enter 84 args) w := enters_of Tryz.func84 (by kernel_rfl) rfl
    have hcon := AnyQ.slices_SortFunc Tryz.laysSFE 3 Tryz.isAgg167 Tryz.sizeOf167 encE encE_len encE_one cfE swoE 84 #[] g 0 cap l.toArray w eg (fun _ _ _ _ x y => less_calls x y _) hH hlt.2 (by simp; omega)
    simp only [List.size_toArray, hl] at hcon
    refine hcon.mono ?_
    rintro e w' ⟨rfl, d', m, os, hp, hs, rfl⟩
    obtain ⟨hsz, _, hpm⟩ := hp
    have hsz' : d'.size = n := by rw [hsz]; simpa using hl
    have hpm' : d'.toList.Perm l := by
      have e1 : (d'.extract 0 n) = d' := by rw [← hsz']; simp
      have e2 : (l.toArray.extract 0 n) = l.toArray := by rw [← hl]; simp
      rw [e1, e2] at hpm
      simpa using hpm
    refine ⟨rfl, d'.toList, hpm', ?_, ?_, grown_sortK _ _ _ _ _ _ _ _⟩
    · rw [List.pairwise_iff_getElem]
      intro i j hi hj hij
      have hi' : i < d'.size := by simpa using hi
      have hj' : j < d'.size := by simpa using hj
      have := hs i j (Nat.zero_le _) hij (by omega)
      rw [ltE, decide_eq_false_iff_not, getElem!_pos d' j hj', getElem!_pos d' i hi'] at this
      exact this
    · refine ⟨by rw [flatE_len]; simp [hsz'], .inr ⟨g, cap, putCells id 0 (flatK encE 3 d') cur, rfl, h1, ?_, h3, h4, by simp [putCells, h5], ?_⟩⟩
      · simp only [sortWorldK, grow, putRowK, putRow, mapBlock, Sort.ahead]
        rw [Array.getElem?_append_left (by simpa using hlt.2), Array.getElem?_modify, if_pos rfl, h2]
        rfl
      · apply List.ext_getElem?
        intro t
        by_cases ht : t < n * 3
        · rw [List.getElem?_take_of_lt ht, flatE_get (by simpa [hsz'] using ht)]
          have htc : t < cur.size := by rw [h5]; exact Nat.lt_of_lt_of_le ht (Nat.mul_le_mul_right 3 h3)
          have hts : t < (flatK encE 3 d').size := by rw [size_flatK, hsz']; exact ht
          simp only [putCells, Array.getElem?_toList, Array.getElem?_mapIdx, Array.getElem?_eq_getElem htc, Option.map_some]
          rw [if_pos ⟨Nat.zero_le _, by simpa using hts⟩, Nat.sub_zero, get_flatK _ _ _ _ (by rw [hsz']; exact ht)]
          congr 2
          have hq : t / 3 < d'.size := by omega
          rw [getElem!_pos d' _ hq, getElem!_pos d'.toList _ (by simpa using hq)]
          simp
        · rw [List.getElem?_eq_none (by rw [List.length_take]; omega), List.getElem?_eq_none (by rw [flatE_len]; simp [hsz']; omega)]
end Go.Proofs.YtfpgbhimgfdddaaGreatDoor

/- Layer 3 (disk): what a directory lists, entry by entry. No walk. -/
namespace Go.Proofs.YtfpgbhimgfdddaaGreatDoor
open Go.RowKit Go.Shelf Go.Maps Go.Sort

theorem perm_of {out tgt : List En} (h1 : (out.map En.name).Nodup) (h2 : (tgt.map En.name).Nodup) (h : ∀ e, e ∈ out ↔ e ∈ tgt) : out.Perm tgt :=
  (List.perm_ext_iff_of_nodup (nodup_of_map h1) (nodup_of_map h2)).2 h
theorem left_step (left : Lit → Bool) (k z : Txt) : (left (.string z) && !(Lit.string z).sameKey (.string k)) = false ↔ (left (.string z) = false ∨ z = k) := by
  cases h1 : left (.string z) with
  | false => simp
  | true =>
    rw [Bool.true_and]
    constructor
    · intro h2
      right
      exact same_str.1 (by simpa using h2)
    · rintro (h2 | h2)
      · cases h2
      · rw [same_str.2 h2]; rfl
/-- The directories that have been visited. -/
def Inv1 (l : List Th) (left : Txt → Bool) (out : List En) : Prop :=
  (out.map En.name).Nodup ∧ ∀ e, e ∈ out ↔ ∃ x ∈ l, x.dir = true ∧ left x.path = false ∧ e = ⟨x.path, true, 0⟩
/-- .. and the files. -/
def Inv2 (d : Ds) (l : List Th) (left : Txt → Bool) (out : List En) : Prop :=
  (out.map En.name).Nodup ∧ ∀ e, e ∈ out ↔ (∃ x ∈ l, x.dir = true ∧ e = ⟨x.path, true, 0⟩) ∨ ∃ x ∈ l, x.dir = false ∧ slashAt x.path = none ∧ left x.path = false ∧ e = ⟨x.path, false, (nowAt d x.at_).length⟩
section
variable {d : Ds} {l : List Th} {n : Nat} {left left' : Txt → Bool} {out : List En}
theorem Inv1.start (h : ∀ x ∈ l, x.dir = true → left x.path = true) : Inv1 l left [] := by
  refine ⟨by simp, fun e => ⟨fun h => by simp at h, ?_⟩⟩
  rintro ⟨x, hx, h1, h2, _⟩
  rw [h x hx h1] at h2
  cases h2
theorem Inv1.step (hw : TW n l) (h : Inv1 l left out) {k : Txt} (hk : ∃ x ∈ l, x.dir = true ∧ x.path = k) (hlk : left k = true) (hl : ∀ z, left' z = false ↔ (left z = false ∨ z = k)) : Inv1 l left' (out ++ [⟨k, true, 0⟩]) := by
  obtain ⟨y, hy, hyd, rfl⟩ := hk
  refine ⟨?_, fun e => ?_⟩
  · rw [List.map_append, List.nodup_append]
    refine ⟨h.1, by simp, ?_⟩
    intro a ha b hb e
    simp at hb
    subst hb e
    obtain ⟨e1, he1, hne⟩ := List.mem_map.1 ha
    obtain ⟨x, hx, _, hx2, rfl⟩ := (h.2 e1).1 he1
    simp only at hne
    rw [hne] at hx2
    rw [hx2] at hlk
    cases hlk
  · rw [List.mem_append, h.2 e, List.mem_singleton]
    constructor
    · rintro (⟨x, hx, h1, h2, rfl⟩ | rfl)
      · exact ⟨x, hx, h1, (hl _).2 (.inl h2), rfl⟩
      · exact ⟨y, hy, hyd, (hl _).2 (.inr rfl), rfl⟩
    · rintro ⟨x, hx, h1, h2, rfl⟩
      rcases (hl _).1 h2 with h3 | h3
      · exact .inl ⟨x, hx, h1, h3, rfl⟩
      · exact .inr (by rw [h3])
theorem Inv1.to_two (hw : TW n l) (h : Inv1 l left out) (h0 : ∀ x, left x = false) (hs : ∀ x ∈ l, x.dir = false → left' x.path = true) : Inv2 d l left' out := by
  refine ⟨h.1, fun e => ?_⟩
  rw [h.2 e]
  constructor
  · rintro ⟨x, hx, h1, _, rfl⟩; exact .inl ⟨x, hx, h1, rfl⟩
  · rintro (⟨x, hx, h1, rfl⟩ | ⟨x, hx, h1, _, h3, rfl⟩)
    · exact ⟨x, hx, h1, h0 _, rfl⟩
    · rw [hs x hx h1] at h3
      cases h3
theorem Inv2.step (hw : TW n l) (h : Inv2 d l left out) {x : Th} (hx : x ∈ l) (hd : x.dir = false) (hs : slashAt x.path = none) (hlk : left x.path = true) (hl : ∀ z, left' z = false ↔ (left z = false ∨ z = x.path)) : Inv2 d l left' (out ++ [⟨x.path, false, (nowAt d x.at_).length⟩]) := by
  refine ⟨?_, fun e => ?_⟩
  · rw [List.map_append, List.nodup_append]
    refine ⟨h.1, by simp, ?_⟩
    intro a ha b hb e
    simp at hb
    subst hb e
    obtain ⟨e1, he1, hne⟩ := List.mem_map.1 ha
    rcases (h.2 e1).1 he1 with ⟨y, hy, hyd, rfl⟩ | ⟨y, hy, hyd, _, hy2, rfl⟩
    · have := path_one hw.nodup hy hx hne
      rw [this, hd] at hyd
      cases hyd
    · simp only at hne
      rw [hne, hlk] at hy2
      cases hy2
  · rw [List.mem_append, h.2 e, List.mem_singleton]
    constructor
    · rintro ((h1 | ⟨y, hy, h1, h2, h3, rfl⟩) | rfl)
      · exact .inl h1
      · exact .inr ⟨y, hy, h1, h2, (hl _).2 (.inl h3), rfl⟩
      · exact .inr ⟨x, hx, hd, hs, (hl _).2 (.inr rfl), rfl⟩
    · rintro (h1 | ⟨y, hy, h1, h2, h3, rfl⟩)
      · exact .inl (.inl h1)
      · rcases (hl _).1 h3 with h4 | h4
        · exact .inl (.inr ⟨y, hy, h1, h2, h4, rfl⟩)
        · have := path_one hw.nodup hy hx h4
          subst this
          exact .inr rfl
theorem Inv2.skip (hw : TW n l) (h : Inv2 d l left out) {x : Th} (hx : x ∈ l) (hs : slashAt x.path ≠ none) (hl : ∀ z, left' z = false ↔ (left z = false ∨ z = x.path)) : Inv2 d l left' out := by
  refine ⟨h.1, fun e => ?_⟩
  rw [h.2 e]
  constructor
  · rintro (h1 | ⟨y, hy, h1, h2, h3, rfl⟩)
    · exact .inl h1
    · exact .inr ⟨y, hy, h1, h2, (hl _).2 (.inl h3), rfl⟩
  · rintro (h1 | ⟨y, hy, h1, h2, h3, rfl⟩)
    · exact .inl h1
    · rcases (hl _).1 h3 with h4 | h4
      · exact .inr ⟨y, hy, h1, h2, h4, rfl⟩
      · rw [h4] at h2
        exact absurd h2 hs
theorem Inv1.len (h : Inv1 l left out) : out.length ≤ l.length := by
  have := nodup_len (out.map En.name) (l.map Th.path) h.1 (fun z hz => by
    obtain ⟨e, he, rfl⟩ := List.mem_map.1 hz
    obtain ⟨x, hx, _, _, rfl⟩ := (h.2 e).1 he
    exact List.mem_map.2 ⟨x, hx, rfl⟩)
  simpa using this
theorem Inv2.len (h : Inv2 d l left out) : out.length ≤ l.length := by
  have := nodup_len (out.map En.name) (l.map Th.path) h.1 (fun z hz => by
    obtain ⟨e, he, rfl⟩ := List.mem_map.1 hz
    rcases (h.2 e).1 he with ⟨x, hx, _, rfl⟩ | ⟨x, hx, _, _, _, rfl⟩
    · exact List.mem_map.2 ⟨x, hx, rfl⟩
    · exact List.mem_map.2 ⟨x, hx, rfl⟩)
  simpa using this
theorem Inv2.all (hw : TW n d.things) (h : Inv2 d d.things left out) (h0 : ∀ x, left x = false) : out.Perm (entD d []) := by
  refine perm_of h.1 (entD_nodup hw.nodup []) fun e => ?_
  rw [h.2 e]
  unfold entD
  rw [List.mem_filterMap]
  constructor
  · rintro (⟨x, hx, h1, rfl⟩ | ⟨x, hx, h1, h2, _, rfl⟩)
    · refine ⟨x, hx, ?_⟩
      rw [if_pos rfl, nameB_slash (hw.dirs x hx h1), h1]
      rfl
    · refine ⟨x, hx, ?_⟩
      rw [if_pos rfl, h2, h1]
      rfl
  · rintro ⟨x, hx, h1⟩
    rw [if_pos rfl] at h1
    cases hs : slashAt x.path with
    | some k => rw [hs] at h1; simp at h1
    | none =>
      rw [hs] at h1
      simp only [Option.isSome_none, Bool.false_eq_true, if_false, Option.some.injEq] at h1
      cases hd : x.dir with
      | true => exact .inl ⟨x, hx, hd, by rw [← h1, hd]; rfl⟩
      | false => exact .inr ⟨x, hx, hd, hs, h0 _, by rw [← h1, hd]; rfl⟩
/-- The files in a directory. -/
theorem dir_perm (hw : TW n d.things) {dir : Txt} (hn : dir ≠ []) {bs : List Txt} (hnd : bs.Nodup) (g : Txt → Nat) (hbs : ∀ s, s ∈ bs ↔ ∃ x ∈ d.things, x.dir = false ∧ x.path = dir ++ [47] ++ s) (hg : ∀ x ∈ d.things, ∀ s, x.dir = false → x.path = dir ++ [47] ++ s → g s = (nowAt d x.at_).length) :
    (bs.map fun s => (⟨s, false, g s⟩ : En)).Perm (entD d dir) := by
  have e0 : ((bs.map fun s => (⟨s, false, g s⟩ : En)).map En.name) = bs := by rw [List.map_map]; exact List.map_id _
  refine perm_of (by rw [e0]; exact hnd) (entD_nodup hw.nodup dir) fun e => ?_
  unfold entD
  rw [List.mem_map, List.mem_filterMap]
  constructor
  · rintro ⟨s, hs, rfl⟩
    obtain ⟨x, hx, hd, hp⟩ := (hbs s).1 hs
    refine ⟨x, hx, ?_⟩
    rw [if_neg hn, if_pos (inside_iff.2 ⟨s, hp⟩), hd, hg x hx s hd hp]
    simp [hp]
  · rintro ⟨x, hx, h1⟩
    rw [if_neg hn] at h1
    split at h1
    · rename_i hin
      obtain ⟨s, hs⟩ := inside_iff.1 hin
      have hd : x.dir = false := by
        cases hd : x.dir with
        | false => rfl
        | true =>
          have := name_not_inside (d := dir) (hw.dirs x hx hd)
          rw [this] at hin
          cases hin
      refine ⟨s, (hbs s).2 ⟨x, hx, hd, hs⟩, ?_⟩
      injection h1 with h1
      rw [← h1, hd, hg x hx s hd hs]
      simp [hs]
    · cases h1
end
theorem listD_ok {d : Ds} {n : Nat} (hw : TW n d.things) {dir : Txt} {l : List En} (hp : l.Perm (entD d dir)) (hs : l.Pairwise LeE) : l = sortE (entD d dir) := sortE_one hw.nodup hp hs
end Go.Proofs.YtfpgbhimgfdddaaGreatDoor
