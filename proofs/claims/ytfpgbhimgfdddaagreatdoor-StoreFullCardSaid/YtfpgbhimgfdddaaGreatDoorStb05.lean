/- Merged: DskPlain3, DskPlain4. -/
import Derived.Test.YtfpgbhimgfdddaaGreatDoorStb04
set_option linter.unusedVariables false
set_option linter.unusedSimpArgs false
/-! ## DskPlain3 -/
/- The plain law of layer 3 (disk): a names step leaves what there is as it should be; a rename, key by key. No program in sight. -/
namespace Go.Proofs.YtfpgbhimgfdddaaGreatDoor
variable {n : Nat} {l : List Th} {φ : List Nat} {a b : Txt} {i : Nat}

theorem nodup_app {l : List Th} {x : Th} (h : (l.map Th.path).Nodup) (hx : isT l x.path = 0) : ((l ++ [x]).map Th.path).Nodup := by
  rw [List.map_append, List.nodup_append]
  refine ⟨h, by simp, ?_⟩
  intro p hp q hq
  simp at hq
  subst hq
  obtain ⟨y, hy, rfl⟩ := List.mem_map.1 hp
  exact isT_zero.1 hx y hy
theorem name_path {a : Txt} (h : nameB a = true) : pathB a = true := by
  unfold pathB
  rw [nameB_slash h]
  exact h
theorem TW.mkdir (hw : TW n l) (h : StOk n l (.mkdir a)) : TW n (applyS l (.mkdir a)) := by
  obtain ⟨h1, h2⟩ := h
  refine ⟨nodup_app hw.nodup h2, ?_, ?_, ?_, ?_, ?_⟩
  · intro x hx hd
    rcases List.mem_append.1 hx with hx | hx
    · exact hw.dirs x hx hd
    · rw [List.mem_singleton.1 hx]; exact h1
  · intro x hx
    rcases List.mem_append.1 hx with hx | hx
    · exact hw.paths x hx
    · rw [List.mem_singleton.1 hx]; exact name_path h1
  · intro x hx k hk
    rcases List.mem_append.1 hx with hx | hx
    · obtain ⟨y, hy, e⟩ := hw.par x hx k hk
      exact ⟨y, List.mem_append.2 (.inl hy), e⟩
    · rw [List.mem_singleton.1 hx] at hk
      have := nameB_slash h1
      rw [this] at hk
      cases hk
  · intro x hx hd
    rcases List.mem_append.1 hx with hx | hx
    · exact hw.ats x hx hd
    · rw [List.mem_singleton.1 hx] at hd; cases hd
  · intro x hx y hy hdx hdy e
    rcases List.mem_append.1 hx with hx | hx
    · rcases List.mem_append.1 hy with hy | hy
      · exact hw.inj x hx y hy hdx hdy e
      · rw [List.mem_singleton.1 hy] at hdy; cases hdy
    · rw [List.mem_singleton.1 hx] at hdx; cases hdx
theorem parent_some (h : parentB l a = true) {k : Nat} (hk : slashAt a = some k) : ∃ y ∈ l, y.dir = true ∧ y.path = a.take k := by
  unfold parentB at h
  rw [hk] at h
  have h2 : isT l (a.take k) = 2 := by simpa using h
  obtain ⟨y, hy, e, h3⟩ := isT_cases (by rw [h2]; omega)
  refine ⟨y, hy, ?_, e⟩
  rw [h2] at h3
  split at h3
  · assumption
  · omega
theorem TW.create (hw : TW n l) (h : StOk n l (.create a i)) : TW n (applyS l (.create a i)) := by
  obtain ⟨h1, h2, h3, h4, h5⟩ := h
  refine ⟨nodup_app hw.nodup h3, ?_, ?_, ?_, ?_, ?_⟩
  · intro x hx hd
    rcases List.mem_append.1 hx with hx | hx
    · exact hw.dirs x hx hd
    · rw [List.mem_singleton.1 hx] at hd; cases hd
  · intro x hx
    rcases List.mem_append.1 hx with hx | hx
    · exact hw.paths x hx
    · rw [List.mem_singleton.1 hx]; exact h1
  · intro x hx k hk
    rcases List.mem_append.1 hx with hx | hx
    · obtain ⟨y, hy, e⟩ := hw.par x hx k hk
      exact ⟨y, List.mem_append.2 (.inl hy), e⟩
    · rw [List.mem_singleton.1 hx] at hk ⊢
      obtain ⟨y, hy, e⟩ := parent_some h2 hk
      exact ⟨y, List.mem_append.2 (.inl hy), e⟩
  · intro x hx hd
    rcases List.mem_append.1 hx with hx | hx
    · exact hw.ats x hx hd
    · rw [List.mem_singleton.1 hx]; exact h4
  · intro x hx y hy hdx hdy e
    rcases List.mem_append.1 hx with hx | hx
    · rcases List.mem_append.1 hy with hy | hy
      · exact hw.inj x hx y hy hdx hdy e
      · rw [List.mem_singleton.1 hy] at e
        exact absurd e (h5 x hx hdx)
    · rcases List.mem_append.1 hy with hy | hy
      · rw [List.mem_singleton.1 hx] at e
        exact absurd e.symm (h5 y hy hdy)
      · rw [List.mem_singleton.1 hx, List.mem_singleton.1 hy]
theorem TW.remove (hw : TW n l) : TW n (applyS l (.remove a)) := by
  have hsub : ∀ x ∈ applyS l (.remove a), x ∈ l := fun x hx => (List.mem_filter.1 hx).1
  refine ⟨nodup_filter hw.nodup, fun x hx => hw.dirs x (hsub x hx), fun x hx => hw.paths x (hsub x hx), ?_, fun x hx => hw.ats x (hsub x hx), fun x hx y hy => hw.inj x (hsub x hx) y (hsub y hy)⟩
  intro x hx k hk
  obtain ⟨y, hy, h1, h2⟩ := hw.par x (hsub x hx) k hk
  refine ⟨y, List.mem_filter.2 ⟨hy, ?_⟩, h1, h2⟩
  rw [name_not_inside (hw.dirs y hy h1)]
  have hx2 := (List.mem_filter.1 hx).2
  have hne : y.path ≠ a := by
    intro e
    obtain ⟨_, hsp⟩ := slashAt_take hk
    rw [← h2, e] at hsp
    have : insideB x.path a = true := inside_iff.2 ⟨_, hsp⟩
    simp [this] at hx2
  simp [hne]

/-! ### rename -/
/-- What is behind a rename, path by path. -/
theorem ren_mem {x : Th} : x ∈ applyS l (.rename a b) ↔ ∃ y ∈ l, y.path ≠ b ∧ mv a b y = x := by
  rw [applyS_rename, List.mem_map]
  constructor
  · rintro ⟨y, hy, e⟩
    obtain ⟨h1, h2⟩ := List.mem_filter.1 hy
    exact ⟨y, h1, by simpa using h2, e⟩
  · rintro ⟨y, h1, h2, e⟩
    exact ⟨y, List.mem_filter.2 ⟨h1, by simpa using h2⟩, e⟩
/-- Nothing is at, or in, the place that a rename takes. -/
theorem ren_free (hw : TW n l) (h : StOk n l (.rename a b)) {y : Th} (hy : y ∈ l) : insideB y.path b = false := none_in hw h.2.2.2.2.1 h.2.1 hy
theorem app_cancel {d x y : Txt} (h : d ++ [47] ++ x = d ++ [47] ++ y) : x = y := List.append_cancel_left h
theorem ren_inj (hw : TW n l) (h : StOk n l (.rename a b)) {x y : Th} (hx : x ∈ l) (hy : y ∈ l) (hxb : x.path ≠ b) (hyb : y.path ≠ b) (e : (mv a b x).path = (mv a b y).path) : x = y := by
  have hne : ∀ r : Txt, b ≠ b ++ [47] ++ r := fun r e => by have := congrArg List.length e; simp at this
  rcases mv_path (a := a) (b := b) x with ⟨h1, h2⟩ | ⟨r, h1, h2⟩ | ⟨h1, h2, h3⟩
  · rcases mv_path (a := a) (b := b) y with ⟨k1, k2⟩ | ⟨s, k1, k2⟩ | ⟨k1, k2, k3⟩
    · exact path_one hw.nodup hx hy (h1.trans k1.symm)
    · rw [h2, k2] at e; exact absurd e (hne s)
    · rw [h2, k3] at e; exact absurd e.symm hyb
  · rcases mv_path (a := a) (b := b) y with ⟨k1, k2⟩ | ⟨s, k1, k2⟩ | ⟨k1, k2, k3⟩
    · rw [h2, k2] at e; exact absurd e.symm (hne r)
    · rw [h2, k2] at e
      have := app_cancel e
      subst this
      exact path_one hw.nodup hx hy (h1.trans k1.symm)
    · rw [h2, k3] at e
      have := ren_free hw h hy
      rw [inside_iff.2 ⟨r, e.symm⟩] at this
      cases this
  · rcases mv_path (a := a) (b := b) y with ⟨k1, k2⟩ | ⟨s, k1, k2⟩ | ⟨k1, k2, k3⟩
    · rw [h3, k2] at e; exact absurd e hxb
    · rw [h3, k2] at e
      have := ren_free hw h hx
      rw [inside_iff.2 ⟨s, e⟩] at this
      cases this
    · rw [h3, k3] at e
      exact path_one hw.nodup hx hy e
theorem nodup_map_inj {α β : Type} {f : α → β} : ∀ {l : List α}, l.Nodup → (∀ x ∈ l, ∀ y ∈ l, f x = f y → x = y) → (l.map f).Nodup
  | [], _, _ => by simp
  | a :: l, h, hi => by
    rw [List.nodup_cons] at h
    rw [List.map_cons, List.nodup_cons]
    refine ⟨?_, nodup_map_inj h.2 fun x hx y hy => hi x (by simp [hx]) y (by simp [hy])⟩
    intro hm
    obtain ⟨y, hy, e⟩ := List.mem_map.1 hm
    have := hi y (by simp [hy]) a (by simp) e
    exact h.1 (this ▸ hy)
theorem nodup_of_map {α β : Type} {f : α → β} {l : List α} (h : (l.map f).Nodup) : l.Nodup := by
  induction l with
  | nil => simp
  | cons a l ih =>
    rw [List.map_cons, List.nodup_cons] at h
    rw [List.nodup_cons]
    exact ⟨fun hm => h.1 (List.mem_map_of_mem hm), ih h.2⟩
theorem TW.rename (hw : TW n l) (h : StOk n l (.rename a b)) : TW n (applyS l (.rename a b)) := by
  have h' := h
  obtain ⟨hpa, hpb, hta, hpar, htb, hdir, hab⟩ := h'
  refine ⟨?_, ?_, ?_, ?_, ?_, ?_⟩
  · rw [applyS_rename, List.map_map]
    refine nodup_map_inj (nodup_of_map (nodup_filter hw.nodup)) ?_
    intro x hx y hy e
    obtain ⟨h1, h2⟩ := List.mem_filter.1 hx
    obtain ⟨k1, k2⟩ := List.mem_filter.1 hy
    exact ren_inj hw h h1 k1 (by simpa using h2) (by simpa using k2) e
  · intro x hx hd
    obtain ⟨y, hy, hyb, rfl⟩ := ren_mem.1 hx
    rw [(mv_dir y).1] at hd
    rcases mv_path (a := a) (b := b) y with ⟨h1, h2⟩ | ⟨r, h1, h2⟩ | ⟨h1, h2, h3⟩
    · rw [h2]
      refine (hdir ?_).1
      have := isT_of hw.nodup hy
      rw [h1, hd] at this
      exact this
    · have := name_not_inside (d := a) (hw.dirs y hy hd)
      rw [inside_iff.2 ⟨r, h1⟩] at this
      cases this
    · rw [h3]; exact hw.dirs y hy hd
  · intro x hx
    obtain ⟨y, hy, hyb, rfl⟩ := ren_mem.1 hx
    rcases mv_path (a := a) (b := b) y with ⟨h1, h2⟩ | ⟨r, h1, h2⟩ | ⟨h1, h2, h3⟩
    · rw [h2]; exact hpb
    · have ha2 : isT l a = 2 := by
        apply Classical.byContradiction
        intro hne
        have := none_in hw hne hpa hy
        rw [inside_iff.2 ⟨r, h1⟩] at this
        cases this
      obtain ⟨z, hz, e, hz2⟩ := isT_cases hta
      have hzd : z.dir = true := by rw [ha2] at hz2; split at hz2; assumption; omega
      have hna : nameB a = true := by rw [← e]; exact hw.dirs z hz hzd
      have h3 := hw.paths y hy
      unfold pathB at h3 ⊢
      rw [h1, slashAt_app r (nameB_slash hna)] at h3
      rw [h2, slashAt_app r (nameB_slash (hdir ha2).1)]
      simp only [Bool.and_eq_true] at h3 ⊢
      refine ⟨by simpa using (hdir ha2).1, ?_⟩
      have := h3.2
      simpa using this
    · rw [h3]; exact hw.paths y hy
  · intro x hx k hk
    obtain ⟨y, hy, hyb, rfl⟩ := ren_mem.1 hx
    rcases mv_path (a := a) (b := b) y with ⟨h1, h2⟩ | ⟨r, h1, h2⟩ | ⟨h1, h2, h3⟩
    · rw [h2] at hk ⊢
      obtain ⟨z, hz, e1, e2⟩ := parent_some hpar hk
      have hza : z.path ≠ a := by
        intro e
        have := isT_of hw.nodup hz
        rw [e, e1] at this
        have hnb := (hdir this).1
        rw [nameB_slash hnb] at hk
        cases hk
      have hzb : z.path ≠ b := by
        intro e
        have := isT_of hw.nodup hz
        rw [e, e1] at this
        exact htb this
      refine ⟨z, ren_mem.2 ⟨z, hz, hzb, mv_other hza (name_not_inside (hw.dirs z hz e1))⟩, e1, e2⟩
    · have ha2 : isT l a = 2 := by
        apply Classical.byContradiction
        intro hne
        have := none_in hw hne hpa hy
        rw [inside_iff.2 ⟨r, h1⟩] at this
        cases this
      obtain ⟨z, hz, e, hz2⟩ := isT_cases hta
      have hzd : z.dir = true := by rw [ha2] at hz2; split at hz2; assumption; omega
      have hzb : z.path ≠ b := by rw [e]; exact hab
      rw [h2, slashAt_app r (nameB_slash (hdir ha2).1)] at hk
      injection hk with hk
      refine ⟨mv a b z, ren_mem.2 ⟨z, hz, hzb, rfl⟩, by rw [(mv_dir z).1]; exact hzd, ?_⟩
      rw [mv_self e, h2, ← hk]
      simp
    · rw [h3] at hk ⊢
      obtain ⟨z, hz, e1, e2⟩ := hw.par y hy k hk
      have hzb : z.path ≠ b := by
        intro e
        have := isT_of hw.nodup hz
        rw [e, e1] at this
        exact htb this
      have hza : z.path ≠ a := by
        intro e
        obtain ⟨_, hsp⟩ := slashAt_take hk
        rw [← e2, e] at hsp
        rw [inside_iff.2 ⟨_, hsp⟩] at h2
        cases h2
      exact ⟨z, ren_mem.2 ⟨z, hz, hzb, mv_other hza (name_not_inside (hw.dirs z hz e1))⟩, e1, e2⟩
  · intro x hx hd
    obtain ⟨y, hy, hyb, rfl⟩ := ren_mem.1 hx
    rw [(mv_dir y).1] at hd
    rw [(mv_dir y).2]
    exact hw.ats y hy hd
  · intro x hx z hz hdx hdz e
    obtain ⟨y, hy, hyb, rfl⟩ := ren_mem.1 hx
    obtain ⟨y', hy', hyb', rfl⟩ := ren_mem.1 hz
    rw [(mv_dir y).1] at hdx
    rw [(mv_dir y').1] at hdz
    rw [(mv_dir y).2, (mv_dir y').2] at e
    rw [hw.inj y hy y' hy' hdx hdz e]
theorem TW.apply (hw : TW n l) {s : St} (h : StOk n l s) : TW n (applyS l s) := by
  cases s with
  | mkdir a => exact hw.mkdir h
  | create a i => exact hw.create h
  | rename a b => exact hw.rename h
  | remove a => exact hw.remove
end Go.Proofs.YtfpgbhimgfdddaaGreatDoor

/-! ## DskPlain4 -/
/- The plain law of layer 3 (disk): a rename, key by key. No program in sight. -/
namespace Go.Proofs.YtfpgbhimgfdddaaGreatDoor
variable {n : Nat} {l : List Th} {φ : List Nat} {a b : Txt} {i : Nat}

theorem isT_one {l : List Th} (h : (l.map Th.path).Nodup) {a : Txt} : isT l a = 1 ↔ ∃ x ∈ l, x.dir = false ∧ x.path = a := by
  constructor
  · intro e
    obtain ⟨x, hx, e1, e2⟩ := isT_cases (a := a) (by rw [e]; omega)
    rw [e] at e2
    refine ⟨x, hx, ?_, e1⟩
    cases hd : x.dir with
    | false => rfl
    | true => rw [hd] at e2; simp at e2
  · rintro ⟨x, hx, hd, rfl⟩
    rw [isT_of h hx, hd]
    rfl
theorem isT_two {l : List Th} (h : (l.map Th.path).Nodup) {a : Txt} : isT l a = 2 ↔ ∃ x ∈ l, x.dir = true ∧ x.path = a := by
  constructor
  · intro e
    obtain ⟨x, hx, e1, e2⟩ := isT_cases (a := a) (by rw [e]; omega)
    rw [e] at e2
    refine ⟨x, hx, ?_, e1⟩
    cases hd : x.dir with
    | true => rfl
    | false => rw [hd] at e2; simp at e2
  · rintro ⟨x, hx, hd, rfl⟩
    rw [isT_of h hx, hd]
    rfl
theorem isT_range (l : List Th) (a : Txt) : isT l a = 0 ∨ isT l a = 1 ∨ isT l a = 2 := by
  unfold isT
  split
  · exact .inl rfl
  · split
    · exact .inr (.inr rfl)
    · exact .inr (.inl rfl)
theorem dirF_two (hw : TW n l) {x : Txt} : (dirF l x).isSome = true ↔ isT l x = 2 := by rw [dirF_some, isT_two hw.nodup]
theorem filF_one (hw : TW n l) {x : Txt} : (filF φ l x).isSome = true ↔ isT l x = 1 := by
  rw [isT_one hw.nodup]
  constructor
  · intro h
    obtain ⟨v, hv⟩ := Option.isSome_iff_exists.1 h
    obtain ⟨y, hy, h1, h2, _⟩ := (filF_iff hw.nodup).1 hv
    exact ⟨y, hy, h1, h2⟩
  · rintro ⟨y, hy, h1, h2⟩
    rw [(filF_iff hw.nodup).2 ⟨y, hy, h1, h2, rfl⟩]
    rfl
theorem dirF_ren_file (hw : TW n l) (h : StOk n l (.rename a b)) (ha : isT l a = 1) : dirF (applyS l (.rename a b)) = dirF l := by
  funext x
  refine dirF_eq ?_
  constructor
  · rintro ⟨z, hz, h1, rfl⟩
    obtain ⟨y, hy, hyb, rfl⟩ := ren_mem.1 hz
    rw [(mv_dir y).1] at h1
    rcases mv_path (a := a) (b := b) y with ⟨k1, k2⟩ | ⟨r, k1, k2⟩ | ⟨k1, k2, k3⟩
    · have := isT_of hw.nodup hy
      rw [k1, h1, ha] at this
      simp at this
    · have := name_not_inside (d := a) (hw.dirs y hy h1)
      rw [inside_iff.2 ⟨r, k1⟩] at this
      cases this
    · rw [k3]; exact ⟨y, hy, h1, rfl⟩
  · rintro ⟨y, hy, h1, rfl⟩
    have hya : y.path ≠ a := by
      intro e
      have := isT_of hw.nodup hy
      rw [e, h1, ha] at this
      simp at this
    have hyb : y.path ≠ b := by
      intro e
      have := isT_of hw.nodup hy
      rw [e, h1] at this
      exact h.2.2.2.2.1 this
    exact ⟨y, ren_mem.2 ⟨y, hy, hyb, mv_other hya (name_not_inside (hw.dirs y hy h1))⟩, h1, rfl⟩
theorem filF_ren_file (hw : TW n l) (h : StOk n l (.rename a b)) (ha : isT l a = 1) : filF φ (applyS l (.rename a b)) = upd (upd (filF φ l) b (filF φ l a)) a none := by
  have hw2 := hw.rename h
  have hab := h.2.2.2.2.2.2
  have hno : ∀ y ∈ l, insideB y.path a = false := fun y hy => none_in hw (by rw [ha]; omega) h.1 hy
  funext x
  apply opt_ext
  intro v
  rw [filF_iff hw2.nodup]
  unfold upd
  by_cases hxa : x = a
  · subst hxa
    simp only [if_pos]
    simp only [reduceCtorEq, iff_false]
    rintro ⟨z, hz, h1, h2, _⟩
    obtain ⟨y, hy, hyb, rfl⟩ := ren_mem.1 hz
    rcases mv_path (a := x) (b := b) y with ⟨k1, k2⟩ | ⟨r, k1, k2⟩ | ⟨k1, k2, k3⟩
    · rw [k2] at h2; exact hab h2.symm
    · have := hno y hy
      rw [inside_iff.2 ⟨r, k1⟩] at this
      cases this
    · rw [k3] at h2; exact k1 h2
  · rw [if_neg hxa]
    by_cases hxb : x = b
    · subst hxb
      rw [if_pos rfl, filF_iff hw.nodup]
      constructor
      · rintro ⟨z, hz, h1, h2, h3⟩
        obtain ⟨y, hy, hyb, rfl⟩ := ren_mem.1 hz
        rw [(mv_dir y).1] at h1
        rw [(mv_dir y).2] at h3
        rcases mv_path (a := a) (b := x) y with ⟨k1, k2⟩ | ⟨r, k1, k2⟩ | ⟨k1, k2, k3⟩
        · exact ⟨y, hy, h1, k1, h3⟩
        · have := hno y hy
          rw [inside_iff.2 ⟨r, k1⟩] at this
          cases this
        · rw [k3] at h2; exact absurd h2 hyb
      · rintro ⟨y, hy, h1, h2, h3⟩
        exact ⟨mv a x y, ren_mem.2 ⟨y, hy, by rw [h2]; exact hab, rfl⟩, by rw [(mv_dir y).1]; exact h1, mv_self h2, by rw [(mv_dir y).2]; exact h3⟩
    · rw [if_neg hxb, filF_iff hw.nodup]
      constructor
      · rintro ⟨z, hz, h1, h2, h3⟩
        obtain ⟨y, hy, hyb, rfl⟩ := ren_mem.1 hz
        rw [(mv_dir y).1] at h1
        rw [(mv_dir y).2] at h3
        rcases mv_path (a := a) (b := b) y with ⟨k1, k2⟩ | ⟨r, k1, k2⟩ | ⟨k1, k2, k3⟩
        · rw [k2] at h2; exact absurd h2.symm hxb
        · have := hno y hy
          rw [inside_iff.2 ⟨r, k1⟩] at this
          cases this
        · rw [k3] at h2
          exact ⟨y, hy, h1, h2, h3⟩
      · rintro ⟨y, hy, h1, rfl, h3⟩
        exact ⟨y, ren_mem.2 ⟨y, hy, hxb, mv_other hxa (hno y hy)⟩, h1, rfl, h3⟩
theorem dirF_ren_dir (hw : TW n l) (h : StOk n l (.rename a b)) (ha : isT l a = 2) : dirF (applyS l (.rename a b)) = upd (upd (dirF l) a none) b (some (.int .i64 1)) := by
  have hab := h.2.2.2.2.2.2
  obtain ⟨z, hz, hzd, hzp⟩ := (isT_two hw.nodup).1 ha
  funext x
  unfold upd
  by_cases hxb : x = b
  · subst hxb
    rw [if_pos rfl]
    have : (dirF (applyS l (.rename a x)) x).isSome = true := dirF_some.2 ⟨mv a x z, ren_mem.2 ⟨z, hz, by rw [hzp]; exact hab, rfl⟩, by rw [(mv_dir z).1]; exact hzd, mv_self hzp⟩
    obtain ⟨v, hv⟩ := Option.isSome_iff_exists.1 this
    rw [hv, dirF_val hv]
  · rw [if_neg hxb]
    by_cases hxa : x = a
    · subst hxa
      rw [if_pos rfl]
      cases hd : dirF (applyS l (.rename x b)) x with
      | none => rfl
      | some v =>
        obtain ⟨u, hu, h1, h2⟩ := dirF_some.1 (show (dirF (applyS l (.rename x b)) x).isSome = true by rw [hd]; rfl)
        obtain ⟨y, hy, hyb, rfl⟩ := ren_mem.1 hu
        rw [(mv_dir y).1] at h1
        rcases mv_path (a := x) (b := b) y with ⟨k1, k2⟩ | ⟨r, k1, k2⟩ | ⟨k1, k2, k3⟩
        · rw [k2] at h2; exact absurd h2.symm hxb
        · have := name_not_inside (d := x) (hw.dirs y hy h1)
          rw [inside_iff.2 ⟨r, k1⟩] at this
          cases this
        · rw [k3] at h2; exact absurd h2 k1
    · rw [if_neg hxa]
      refine dirF_eq ?_
      constructor
      · rintro ⟨u, hu, h1, rfl⟩
        obtain ⟨y, hy, hyb, rfl⟩ := ren_mem.1 hu
        rw [(mv_dir y).1] at h1
        rcases mv_path (a := a) (b := b) y with ⟨k1, k2⟩ | ⟨r, k1, k2⟩ | ⟨k1, k2, k3⟩
        · exact absurd k2 hxb
        · have := name_not_inside (d := a) (hw.dirs y hy h1)
          rw [inside_iff.2 ⟨r, k1⟩] at this
          cases this
        · rw [k3]; exact ⟨y, hy, h1, rfl⟩
      · rintro ⟨y, hy, h1, rfl⟩
        exact ⟨y, ren_mem.2 ⟨y, hy, hxb, mv_other hxa (name_not_inside (hw.dirs y hy h1))⟩, h1, rfl⟩
/-- A directory's files move. -/
def mvF (f : Txt → Option Value) (a b : Txt) (bs : List Txt) : Txt → Option Value := bs.foldl (fun g s => upd (upd g (b ++ [47] ++ s) (g (a ++ [47] ++ s))) (a ++ [47] ++ s) none) f
theorem mvF_at (f : Txt → Option Value) (hab : ∀ s t : Txt, a ++ [47] ++ s ≠ b ++ [47] ++ t) : ∀ (bs : List Txt), bs.Nodup → ∀ g : Txt → Option Value, (∀ s ∈ bs, g (a ++ [47] ++ s) = f (a ++ [47] ++ s)) → ∀ x,
    mvF g a b bs x = if ∃ s ∈ bs, x = a ++ [47] ++ s then none else match bs.find? (fun s => x == b ++ [47] ++ s) with | some s => f (a ++ [47] ++ s) | none => g x
  | [], _, g, _, x => by simp [mvF]
  | s :: bs, hn, g, hg, x => by
    rw [List.nodup_cons] at hn
    have hs : g (a ++ [47] ++ s) = f (a ++ [47] ++ s) := hg s (by simp)
    have hg' : ∀ t ∈ bs, upd (upd g (b ++ [47] ++ s) (g (a ++ [47] ++ s))) (a ++ [47] ++ s) none (a ++ [47] ++ t) = f (a ++ [47] ++ t) := by
      intro t ht
      unfold upd
      rw [if_neg (fun e => hn.1 (by rw [← app_cancel e]; exact ht)), if_neg (hab t s)]
      exact hg t (by simp [ht])
    have ih := mvF_at f hab bs hn.2 _ hg' x
    show mvF (upd (upd g (b ++ [47] ++ s) (g (a ++ [47] ++ s))) (a ++ [47] ++ s) none) a b bs x = _
    rw [ih]
    by_cases hx : ∃ t ∈ bs, x = a ++ [47] ++ t
    · obtain ⟨t, ht, e⟩ := hx
      rw [if_pos ⟨t, ht, e⟩, if_pos ⟨t, by simp [ht], e⟩]
    · rw [if_neg hx]
      by_cases hxs : x = a ++ [47] ++ s
      · rw [if_pos ⟨s, by simp, hxs⟩]
        have hf : bs.find? (fun t => x == b ++ [47] ++ t) = none := by
          rw [List.find?_eq_none]
          intro t _
          simp only [beq_iff_eq]
          rw [hxs]
          exact hab s t
        rw [hf]
        simp [upd, hxs]
      · rw [if_neg (by rintro ⟨t, ht, e⟩; rcases List.mem_cons.1 ht with rfl | ht; exact hxs e; exact hx ⟨t, ht, e⟩)]
        rw [List.find?_cons]
        by_cases hxb : x = b ++ [47] ++ s
        · have hf : bs.find? (fun t => x == b ++ [47] ++ t) = none := by
            rw [List.find?_eq_none]
            intro t ht
            simp only [beq_iff_eq]
            rw [hxb]
            intro e
            exact hn.1 (by rw [app_cancel e]; exact ht)
          rw [hf]
          have hbe : (x == b ++ [47] ++ s) = true := by simpa using hxb
          rw [hbe]
          simp only []
          unfold upd
          rw [if_neg hxs, if_pos hxb, hs]
        · have hbe : (x == b ++ [47] ++ s) = false := by simpa using hxb
          rw [hbe]
          simp only []
          cases bs.find? (fun t => x == b ++ [47] ++ t) with
          | some t => rfl
          | none =>
            simp only []
            unfold upd
            rw [if_neg hxs, if_neg hxb]
theorem filF_ren_dir (hw : TW n l) (h : StOk n l (.rename a b)) (ha : isT l a = 2) {bs : List Txt} (hnd : bs.Nodup) (hbs : ∀ x, x ∈ bs ↔ (filF φ l (a ++ [47] ++ x)).isSome = true) : filF φ (applyS l (.rename a b)) = mvF (filF φ l) a b bs := by
  have hw2 := hw.rename h
  have hab := h.2.2.2.2.2.2
  obtain ⟨hnb, hb0⟩ := h.2.2.2.2.2.1 ha
  obtain ⟨z, hz, hzd, hzp⟩ := (isT_two hw.nodup).1 ha
  have hna : nameB a = true := by rw [← hzp]; exact hw.dirs z hz hzd
  have hne : ∀ s t : Txt, a ++ [47] ++ s ≠ b ++ [47] ++ t := by
    intro s t e
    have h1 := slashAt_app s (nameB_slash hna)
    have h2 := slashAt_app t (nameB_slash hnb)
    rw [e, h2] at h1
    injection h1 with h1
    apply hab
    have h3 := congrArg (List.take b.length) e
    rw [List.append_assoc, List.append_assoc, List.take_left] at h3
    rw [← h3, h1, List.take_left]
  funext x
  rw [mvF_at (filF φ l) hne bs hnd (filF φ l) (fun _ _ => rfl) x]
  apply opt_ext
  intro v
  rw [filF_iff hw2.nodup]
  by_cases hxa : ∃ s ∈ bs, x = a ++ [47] ++ s
  · rw [if_pos hxa]
    obtain ⟨s, _, rfl⟩ := hxa
    simp only [reduceCtorEq, iff_false]
    rintro ⟨u, hu, h1, h2, _⟩
    obtain ⟨y, hy, hyb, rfl⟩ := ren_mem.1 hu
    rcases mv_path (a := a) (b := b) y with ⟨k1, k2⟩ | ⟨r, k1, k2⟩ | ⟨k1, k2, k3⟩
    · rw [k2] at h2
      have := nameB_slash hnb
      rw [h2, slashAt_app s (nameB_slash hna)] at this
      cases this
    · rw [k2] at h2; exact hne s r h2.symm
    · rw [k3] at h2
      rw [inside_iff.2 ⟨s, h2⟩] at k2
      cases k2
  · rw [if_neg hxa]
    cases hf : bs.find? (fun s => x == b ++ [47] ++ s) with
    | some s =>
      have h1 := List.find?_some hf
      simp only [beq_iff_eq] at h1
      subst h1
      simp only []
      rw [filF_iff hw.nodup]
      constructor
      · rintro ⟨u, hu, h1, h2, h3⟩
        obtain ⟨y, hy, hyb, rfl⟩ := ren_mem.1 hu
        rw [(mv_dir y).1] at h1
        rw [(mv_dir y).2] at h3
        rcases mv_path (a := a) (b := b) y with ⟨k1, k2⟩ | ⟨r, k1, k2⟩ | ⟨k1, k2, k3⟩
        · rw [k2] at h2
          have := congrArg List.length h2
          simp at this
        · rw [k2] at h2
          have := app_cancel h2
          subst this
          exact ⟨y, hy, h1, k1, h3⟩
        · rw [k3] at h2
          have := ren_free hw h hy
          rw [inside_iff.2 ⟨s, h2⟩] at this
          cases this
      · rintro ⟨y, hy, h1, h2, h3⟩
        have hyb : y.path ≠ b := by
          intro e
          exact isT_zero.1 hb0 y hy e
        exact ⟨mv a b y, ren_mem.2 ⟨y, hy, hyb, rfl⟩, by rw [(mv_dir y).1]; exact h1, mv_in h2, by rw [(mv_dir y).2]; exact h3⟩
    | none =>
      simp only []
      rw [filF_iff hw.nodup]
      simp only [List.find?_eq_none, beq_iff_eq] at hf
      constructor
      · rintro ⟨u, hu, h1, h2, h3⟩
        obtain ⟨y, hy, hyb, rfl⟩ := ren_mem.1 hu
        rw [(mv_dir y).1] at h1
        rw [(mv_dir y).2] at h3
        rcases mv_path (a := a) (b := b) y with ⟨k1, k2⟩ | ⟨r, k1, k2⟩ | ⟨k1, k2, k3⟩
        · have := isT_of hw.nodup hy
          rw [k1, h1, ha] at this
          simp at this
        · rw [k2] at h2
          have hr : r ∈ bs := (hbs r).2 (by rw [(filF_iff hw.nodup).2 ⟨y, hy, h1, k1, rfl⟩]; rfl)
          exact absurd h2.symm (hf r hr)
        · rw [k3] at h2; exact ⟨y, hy, h1, h2, h3⟩
      · rintro ⟨y, hy, h1, rfl, h3⟩
        have hya : y.path ≠ a := by
          intro e
          have := isT_of hw.nodup hy
          rw [e, h1, ha] at this
          simp at this
        have hin : insideB y.path a = false := by
          cases hi : insideB y.path a with
          | false => rfl
          | true =>
            obtain ⟨r, hr⟩ := inside_iff.1 hi
            exact absurd ⟨r, (hbs r).2 (by rw [(filF_iff hw.nodup).2 ⟨y, hy, h1, hr, rfl⟩]; rfl), hr⟩ hxa
        exact ⟨y, ren_mem.2 ⟨y, hy, fun e => isT_zero.1 hb0 y hy e, mv_other hya hin⟩, h1, rfl, h3⟩
/-- A directory's files go. -/
def rmF (f : Txt → Option Value) (a : Txt) (bs : List Txt) : Txt → Option Value := bs.foldl (fun g s => upd g (a ++ [47] ++ s) none) f
theorem rmF_at : ∀ (bs : List Txt) (f : Txt → Option Value) (x : Txt), rmF f a bs x = if ∃ s ∈ bs, x = a ++ [47] ++ s then none else f x
  | [], f, x => by simp [rmF]
  | s :: bs, f, x => by
    show rmF (upd f (a ++ [47] ++ s) none) a bs x = _
    rw [rmF_at bs]
    by_cases hx : ∃ t ∈ bs, x = a ++ [47] ++ t
    · obtain ⟨t, ht, e⟩ := hx
      rw [if_pos ⟨t, ht, e⟩, if_pos ⟨t, by simp [ht], e⟩]
    · rw [if_neg hx]
      unfold upd
      by_cases hxs : x = a ++ [47] ++ s
      · rw [if_pos hxs, if_pos ⟨s, by simp, hxs⟩]
      · rw [if_neg hxs, if_neg (by rintro ⟨t, ht, e⟩; rcases List.mem_cons.1 ht with rfl | ht; exact hxs e; exact hx ⟨t, ht, e⟩)]
theorem filF_rm (hw : TW n l) {bs : List Txt} (hbs : ∀ x, x ∈ bs ↔ (filF φ l (a ++ [47] ++ x)).isSome = true) : filF φ (applyS l (.remove a)) = upd (rmF (filF φ l) a bs) a none := by
  funext x
  rw [filF_remove hw]
  unfold upd
  rw [rmF_at]
  by_cases hxa : x = a
  · rw [if_pos (.inl hxa), if_pos hxa]
  · rw [if_neg hxa]
    by_cases hin : insideB x a = true
    · rw [if_pos (.inr hin)]
      obtain ⟨r, rfl⟩ := inside_iff.1 hin
      by_cases hr : r ∈ bs
      · rw [if_pos ⟨r, hr, rfl⟩]
      · split
        · rfl
        · cases hf : filF φ l (a ++ [47] ++ r) with
          | none => rfl
          | some v => exact absurd ((hbs r).2 (by rw [hf]; rfl)) hr
    · rw [if_neg (by rintro (h | h); exact hxa h; exact hin h), if_neg]
      rintro ⟨s, _, e⟩
      exact hin (inside_iff.2 ⟨s, e⟩)
end Go.Proofs.YtfpgbhimgfdddaaGreatDoor
