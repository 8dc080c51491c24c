/- Merged (what the claim wants of): DskPlain4, DskPlain5. -/
import Derived.Test.YtfpgbhimgfdddaaGreatDoorStk04
set_option linter.unusedVariables false
set_option linter.unusedSimpArgs false
/- The plain law of layer 3 (disk): a rename, key by key. No program in sight. -/
namespace Go.Proofs.YtfpgbhimgfdddaaGreatDoor
variable {n : Nat} {l : List Th} {φ : List Nat} {a b : Txt} {i : Nat}

theorem isT_one {l : List Th} (h : (l.map Th.path).Nodup) {a : Txt} : isT l a = 1 ↔ ∃ x ∈ l, x.dir = false ∧ x.path = a := by
  constructor
  · intro e
    obtain ⟨x, hx, e1, e2⟩ := isT_cases (a := a) (by rw [e]; omega)
    rw [e] at e2
    refine ⟨x, hx, ?_, e1⟩
    cases hd : x.dir with
    | false => rfl
    | true => rw [hd] at e2; simp at e2
  · rintro ⟨x, hx, hd, rfl⟩
    rw [isT_of h hx, hd]
    rfl
theorem isT_two {l : List Th} (h : (l.map Th.path).Nodup) {a : Txt} : isT l a = 2 ↔ ∃ x ∈ l, x.dir = true ∧ x.path = a := by
  constructor
  · intro e
    obtain ⟨x, hx, e1, e2⟩ := isT_cases (a := a) (by rw [e]; omega)
    rw [e] at e2
    refine ⟨x, hx, ?_, e1⟩
    cases hd : x.dir with
    | true => rfl
    | false => rw [hd] at e2; simp at e2
  · rintro ⟨x, hx, hd, rfl⟩
    rw [isT_of h hx, hd]
    rfl
theorem isT_range (l : List Th) (a : Txt) : isT l a = 0 ∨ isT l a = 1 ∨ isT l a = 2 := by
  unfold isT
  split
  · exact .inl rfl
  · split
    · exact .inr (.inr rfl)
    · exact .inr (.inl rfl)
theorem dirF_two (hw : TW n l) {x : Txt} : (dirF l x).isSome = true ↔ isT l x = 2 := by rw [dirF_some, isT_two hw.nodup]
theorem filF_one (hw : TW n l) {x : Txt} : (filF φ l x).isSome = true ↔ isT l x = 1 := by
  rw [isT_one hw.nodup]
  constructor
  · intro h
    obtain ⟨v, hv⟩ := Option.isSome_iff_exists.1 h
    obtain ⟨y, hy, h1, h2, _⟩ := (filF_iff hw.nodup).1 hv
    exact ⟨y, hy, h1, h2⟩
  · rintro ⟨y, hy, h1, h2⟩
    rw [(filF_iff hw.nodup).2 ⟨y, hy, h1, h2, rfl⟩]
    rfl
theorem dirF_ren_file (hw : TW n l) (h : StOk n l (.rename a b)) (ha : isT l a = 1) : dirF (applyS l (.rename a b)) = dirF l := by
  funext x
  refine dirF_eq ?_
  constructor
  · rintro ⟨z, hz, h1, rfl⟩
    obtain ⟨y, hy, hyb, rfl⟩ := ren_mem.1 hz
    rw [(mv_dir y).1] at h1
    rcases mv_path (a := a) (b := b) y with ⟨k1, k2⟩ | ⟨r, k1, k2⟩ | ⟨k1, k2, k3⟩
    · have := isT_of hw.nodup hy
      rw [k1, h1, ha] at this
      simp at this
    · have := name_not_inside (d := a) (hw.dirs y hy h1)
      rw [inside_iff.2 ⟨r, k1⟩] at this
      cases this
    · rw [k3]; exact ⟨y, hy, h1, rfl⟩
  · rintro ⟨y, hy, h1, rfl⟩
    have hya : y.path ≠ a := by
      intro e
      have := isT_of hw.nodup hy
      rw [e, h1, ha] at this
      simp at this
    have hyb : y.path ≠ b := by
      intro e
      have := isT_of hw.nodup hy
      rw [e, h1] at this
      exact h.2.2.2.2.1 this
    exact ⟨y, ren_mem.2 ⟨y, hy, hyb, mv_other hya (name_not_inside (hw.dirs y hy h1))⟩, h1, rfl⟩
theorem filF_ren_file (hw : TW n l) (h : StOk n l (.rename a b)) (ha : isT l a = 1) : filF φ (applyS l (.rename a b)) = upd (upd (filF φ l) b (filF φ l a)) a none := by
  have hw2 := hw.rename h
  have hab := h.2.2.2.2.2.2
  have hno : ∀ y ∈ l, insideB y.path a = false := fun y hy => none_in hw (by rw [ha]; omega) h.1 hy
  funext x
  apply opt_ext
  intro v
  rw [filF_iff hw2.nodup]
  unfold upd
  by_cases hxa : x = a
  · subst hxa
    simp only [if_pos]
    simp only [reduceCtorEq, iff_false]
    rintro ⟨z, hz, h1, h2, _⟩
    obtain ⟨y, hy, hyb, rfl⟩ := ren_mem.1 hz
    rcases mv_path (a := x) (b := b) y with ⟨k1, k2⟩ | ⟨r, k1, k2⟩ | ⟨k1, k2, k3⟩
    · rw [k2] at h2; exact hab h2.symm
    · have := hno y hy
      rw [inside_iff.2 ⟨r, k1⟩] at this
      cases this
    · rw [k3] at h2; exact k1 h2
  · rw [if_neg hxa]
    by_cases hxb : x = b
    · subst hxb
      rw [if_pos rfl, filF_iff hw.nodup]
      constructor
      · rintro ⟨z, hz, h1, h2, h3⟩
        obtain ⟨y, hy, hyb, rfl⟩ := ren_mem.1 hz
        rw [(mv_dir y).1] at h1
        rw [(mv_dir y).2] at h3
        rcases mv_path (a := a) (b := x) y with ⟨k1, k2⟩ | ⟨r, k1, k2⟩ | ⟨k1, k2, k3⟩
        · exact ⟨y, hy, h1, k1, h3⟩
        · have := hno y hy
          rw [inside_iff.2 ⟨r, k1⟩] at this
          cases this
        · rw [k3] at h2; exact absurd h2 hyb
      · rintro ⟨y, hy, h1, h2, h3⟩
        exact ⟨mv a x y, ren_mem.2 ⟨y, hy, by rw [h2]; exact hab, rfl⟩, by rw [(mv_dir y).1]; exact h1, mv_self h2, by rw [(mv_dir y).2]; exact h3⟩
    · rw [if_neg hxb, filF_iff hw.nodup]
      constructor
      · rintro ⟨z, hz, h1, h2, h3⟩
        obtain ⟨y, hy, hyb, rfl⟩ := ren_mem.1 hz
        rw [(mv_dir y).1] at h1
        rw [(mv_dir y).2] at h3
        rcases mv_path (a := a) (b := b) y with ⟨k1, k2⟩ | ⟨r, k1, k2⟩ | ⟨k1, k2, k3⟩
        · rw [k2] at h2; exact absurd h2.symm hxb
        · have := hno y hy
          rw [inside_iff.2 ⟨r, k1⟩] at this
          cases this
        · rw [k3] at h2
          exact ⟨y, hy, h1, h2, h3⟩
      · rintro ⟨y, hy, h1, rfl, h3⟩
        exact ⟨y, ren_mem.2 ⟨y, hy, hxb, mv_other hxa (hno y hy)⟩, h1, rfl, h3⟩
theorem dirF_ren_dir (hw : TW n l) (h : StOk n l (.rename a b)) (ha : isT l a = 2) : dirF (applyS l (.rename a b)) = upd (upd (dirF l) a none) b (some (.int .i64 1)) := by
  have hab := h.2.2.2.2.2.2
  obtain ⟨z, hz, hzd, hzp⟩ := (isT_two hw.nodup).1 ha
  funext x
  unfold upd
  by_cases hxb : x = b
  · subst hxb
    rw [if_pos rfl]
    have : (dirF (applyS l (.rename a x)) x).isSome = true := dirF_some.2 ⟨mv a x z, ren_mem.2 ⟨z, hz, by rw [hzp]; exact hab, rfl⟩, by rw [(mv_dir z).1]; exact hzd, mv_self hzp⟩
    obtain ⟨v, hv⟩ := Option.isSome_iff_exists.1 this
    rw [hv, dirF_val hv]
  · rw [if_neg hxb]
    by_cases hxa : x = a
    · subst hxa
      rw [if_pos rfl]
      cases hd : dirF (applyS l (.rename x b)) x with
      | none => rfl
      | some v =>
        obtain ⟨u, hu, h1, h2⟩ := dirF_some.1 (show (dirF (applyS l (.rename x b)) x).isSome = true by rw [hd]; rfl)
        obtain ⟨y, hy, hyb, rfl⟩ := ren_mem.1 hu
        rw [(mv_dir y).1] at h1
        rcases mv_path (a := x) (b := b) y with ⟨k1, k2⟩ | ⟨r, k1, k2⟩ | ⟨k1, k2, k3⟩
        · rw [k2] at h2; exact absurd h2.symm hxb
        · have := name_not_inside (d := x) (hw.dirs y hy h1)
          rw [inside_iff.2 ⟨r, k1⟩] at this
          cases this
        · rw [k3] at h2; exact absurd h2 k1
    · rw [if_neg hxa]
      refine dirF_eq ?_
      constructor
      · rintro ⟨u, hu, h1, rfl⟩
        obtain ⟨y, hy, hyb, rfl⟩ := ren_mem.1 hu
        rw [(mv_dir y).1] at h1
        rcases mv_path (a := a) (b := b) y with ⟨k1, k2⟩ | ⟨r, k1, k2⟩ | ⟨k1, k2, k3⟩
        · exact absurd k2 hxb
        · have := name_not_inside (d := a) (hw.dirs y hy h1)
          rw [inside_iff.2 ⟨r, k1⟩] at this
          cases this
        · rw [k3]; exact ⟨y, hy, h1, rfl⟩
      · rintro ⟨y, hy, h1, rfl⟩
        exact ⟨y, ren_mem.2 ⟨y, hy, hxb, mv_other hxa (name_not_inside (hw.dirs y hy h1))⟩, h1, rfl⟩
/-- A directory's files move. -/
def mvF (f : Txt → Option Value) (a b : Txt) (bs : List Txt) : Txt → Option Value := bs.foldl (fun g s => upd (upd g (b ++ [47] ++ s) (g (a ++ [47] ++ s))) (a ++ [47] ++ s) none) f
theorem mvF_at (f : Txt → Option Value) (hab : ∀ s t : Txt, a ++ [47] ++ s ≠ b ++ [47] ++ t) : ∀ (bs : List Txt), bs.Nodup → ∀ g : Txt → Option Value, (∀ s ∈ bs, g (a ++ [47] ++ s) = f (a ++ [47] ++ s)) → ∀ x,
    mvF g a b bs x = if ∃ s ∈ bs, x = a ++ [47] ++ s then none else match bs.find? (fun s => x == b ++ [47] ++ s) with | some s => f (a ++ [47] ++ s) | none => g x
  | [], _, g, _, x => by simp [mvF]
  | s :: bs, hn, g, hg, x => by
    rw [List.nodup_cons] at hn
    have hs : g (a ++ [47] ++ s) = f (a ++ [47] ++ s) := hg s (by simp)
    have hg' : ∀ t ∈ bs, upd (upd g (b ++ [47] ++ s) (g (a ++ [47] ++ s))) (a ++ [47] ++ s) none (a ++ [47] ++ t) = f (a ++ [47] ++ t) := by
      intro t ht
      unfold upd
      rw [if_neg (fun e => hn.1 (by rw [← app_cancel e]; exact ht)), if_neg (hab t s)]
      exact hg t (by simp [ht])
    have ih := mvF_at f hab bs hn.2 _ hg' x
    show mvF (upd (upd g (b ++ [47] ++ s) (g (a ++ [47] ++ s))) (a ++ [47] ++ s) none) a b bs x = _
    rw [ih]
    by_cases hx : ∃ t ∈ bs, x = a ++ [47] ++ t
    · obtain ⟨t, ht, e⟩ := hx
      rw [if_pos ⟨t, ht, e⟩, if_pos ⟨t, by simp [ht], e⟩]
    · rw [if_neg hx]
      by_cases hxs : x = a ++ [47] ++ s
      · rw [if_pos ⟨s, by simp, hxs⟩]
        have hf : bs.find? (fun t => x == b ++ [47] ++ t) = none := by
          rw [List.find?_eq_none]
          intro t _
          simp only [beq_iff_eq]
          rw [hxs]
          exact hab s t
        rw [hf]
        simp [upd, hxs]
      · rw [if_neg (by rintro ⟨t, ht, e⟩; rcases List.mem_cons.1 ht with rfl | ht; exact hxs e; exact hx ⟨t, ht, e⟩)]
        rw [List.find?_cons]
        by_cases hxb : x = b ++ [47] ++ s
        · have hf : bs.find? (fun t => x == b ++ [47] ++ t) = none := by
            rw [List.find?_eq_none]
            intro t ht
            simp only [beq_iff_eq]
            rw [hxb]
            intro e
            exact hn.1 (by rw [app_cancel e]; exact ht)
          rw [hf]
          have hbe : (x == b ++ [47] ++ s) = true := by simpa using hxb
          rw [hbe]
          simp only []
          unfold upd
          rw [if_neg hxs, if_pos hxb, hs]
        · have hbe : (x == b ++ [47] ++ s) = false := by simpa using hxb
          rw [hbe]
          simp only []
          cases bs.find? (fun t => x == b ++ [47] ++ t) with
          | some t => rfl
          | none =>
            simp only []
            unfold upd
            rw [if_neg hxs, if_neg hxb]
theorem filF_ren_dir (hw : TW n l) (h : StOk n l (.rename a b)) (ha : isT l a = 2) {bs : List Txt} (hnd : bs.Nodup) (hbs : ∀ x, x ∈ bs ↔ (filF φ l (a ++ [47] ++ x)).isSome = true) : filF φ (applyS l (.rename a b)) = mvF (filF φ l) a b bs := by
  have hw2 := hw.rename h
  have hab := h.2.2.2.2.2.2
  obtain ⟨hnb, hb0⟩ := h.2.2.2.2.2.1 ha
  obtain ⟨z, hz, hzd, hzp⟩ := (isT_two hw.nodup).1 ha
  have hna : nameB a = true := by rw [← hzp]; exact hw.dirs z hz hzd
  have hne : ∀ s t : Txt, a ++ [47] ++ s ≠ b ++ [47] ++ t := by
    intro s t e
    have h1 := slashAt_app s (nameB_slash hna)
    have h2 := slashAt_app t (nameB_slash hnb)
    rw [e, h2] at h1
    injection h1 with h1
    apply hab
    have h3 := congrArg (List.take b.length) e
    rw [List.append_assoc, List.append_assoc, List.take_left] at h3
    rw [← h3, h1, List.take_left]
  funext x
  rw [mvF_at (filF φ l) hne bs hnd (filF φ l) (fun _ _ => rfl) x]
  apply opt_ext
  intro v
  rw [filF_iff hw2.nodup]
  by_cases hxa : ∃ s ∈ bs, x = a ++ [47] ++ s
  · rw [if_pos hxa]
    obtain ⟨s, _, rfl⟩ := hxa
    simp only [reduceCtorEq, iff_false]
    rintro ⟨u, hu, h1, h2, _⟩
    obtain ⟨y, hy, hyb, rfl⟩ := ren_mem.1 hu
    rcases mv_path (a := a) (b := b) y with ⟨k1, k2⟩ | ⟨r, k1, k2⟩ | ⟨k1, k2, k3⟩
    · rw [k2] at h2
      have := nameB_slash hnb
      rw [h2, slashAt_app s (nameB_slash hna)] at this
      cases this
    · rw [k2] at h2; exact hne s r h2.symm
    · rw [k3] at h2
      rw [inside_iff.2 ⟨s, h2⟩] at k2
      cases k2
  · rw [if_neg hxa]
    cases hf : bs.find? (fun s => x == b ++ [47] ++ s) with
    | some s =>
      have h1 := List.find?_some hf
      simp only [beq_iff_eq] at h1
      subst h1
      simp only []
      rw [filF_iff hw.nodup]
      constructor
      · rintro ⟨u, hu, h1, h2, h3⟩
        obtain ⟨y, hy, hyb, rfl⟩ := ren_mem.1 hu
        rw [(mv_dir y).1] at h1
        rw [(mv_dir y).2] at h3
        rcases mv_path (a := a) (b := b) y with ⟨k1, k2⟩ | ⟨r, k1, k2⟩ | ⟨k1, k2, k3⟩
        · rw [k2] at h2
          have := congrArg List.length h2
          simp at this
        · rw [k2] at h2
          have := app_cancel h2
          subst this
          exact ⟨y, hy, h1, k1, h3⟩
        · rw [k3] at h2
          have := ren_free hw h hy
          rw [inside_iff.2 ⟨s, h2⟩] at this
          cases this
      · rintro ⟨y, hy, h1, h2, h3⟩
        have hyb : y.path ≠ b := by
          intro e
          exact isT_zero.1 hb0 y hy e
        exact ⟨mv a b y, ren_mem.2 ⟨y, hy, hyb, rfl⟩, by rw [(mv_dir y).1]; exact h1, mv_in h2, by rw [(mv_dir y).2]; exact h3⟩
    | none =>
      simp only []
      rw [filF_iff hw.nodup]
      simp only [List.find?_eq_none, beq_iff_eq] at hf
      constructor
      · rintro ⟨u, hu, h1, h2, h3⟩
        obtain ⟨y, hy, hyb, rfl⟩ := ren_mem.1 hu
        rw [(mv_dir y).1] at h1
        rw [(mv_dir y).2] at h3
        rcases mv_path (a := a) (b := b) y with ⟨k1, k2⟩ | ⟨r, k1, k2⟩ | ⟨k1, k2, k3⟩
        · have := isT_of hw.nodup hy
          rw [k1, h1, ha] at this
          simp at this
        · rw [k2] at h2
          have hr : r ∈ bs := (hbs r).2 (by rw [(filF_iff hw.nodup).2 ⟨y, hy, h1, k1, rfl⟩]; rfl)
          exact absurd h2.symm (hf r hr)
        · rw [k3] at h2; exact ⟨y, hy, h1, h2, h3⟩
      · rintro ⟨y, hy, h1, rfl, h3⟩
        have hya : y.path ≠ a := by
          intro e
          have := isT_of hw.nodup hy
          rw [e, h1, ha] at this
          simp at this
        have hin : insideB y.path a = false := by
          cases hi : insideB y.path a with
          | false => rfl
          | true =>
            obtain ⟨r, hr⟩ := inside_iff.1 hi
            exact absurd ⟨r, (hbs r).2 (by rw [(filF_iff hw.nodup).2 ⟨y, hy, h1, hr, rfl⟩]; rfl), hr⟩ hxa
        exact ⟨y, ren_mem.2 ⟨y, hy, fun e => isT_zero.1 hb0 y hy e, mv_other hya hin⟩, h1, rfl, h3⟩
/-- A directory's files go. -/
def rmF (f : Txt → Option Value) (a : Txt) (bs : List Txt) : Txt → Option Value := bs.foldl (fun g s => upd g (a ++ [47] ++ s) none) f
theorem rmF_at : ∀ (bs : List Txt) (f : Txt → Option Value) (x : Txt), rmF f a bs x = if ∃ s ∈ bs, x = a ++ [47] ++ s then none else f x
  | [], f, x => by simp [rmF]
  | s :: bs, f, x => by
    show rmF (upd f (a ++ [47] ++ s) none) a bs x = _
    rw [rmF_at bs]
    by_cases hx : ∃ t ∈ bs, x = a ++ [47] ++ t
    · obtain ⟨t, ht, e⟩ := hx
      rw [if_pos ⟨t, ht, e⟩, if_pos ⟨t, by simp [ht], e⟩]
    · rw [if_neg hx]
      unfold upd
      by_cases hxs : x = a ++ [47] ++ s
      · rw [if_pos hxs, if_pos ⟨s, by simp, hxs⟩]
      · rw [if_neg hxs, if_neg (by rintro ⟨t, ht, e⟩; rcases List.mem_cons.1 ht with rfl | ht; exact hxs e; exact hx ⟨t, ht, e⟩)]
theorem filF_rm (hw : TW n l) {bs : List Txt} (hbs : ∀ x, x ∈ bs ↔ (filF φ l (a ++ [47] ++ x)).isSome = true) : filF φ (applyS l (.remove a)) = upd (rmF (filF φ l) a bs) a none := by
  funext x
  rw [filF_remove hw]
  unfold upd
  rw [rmF_at]
  by_cases hxa : x = a
  · rw [if_pos (.inl hxa), if_pos hxa]
  · rw [if_neg hxa]
    by_cases hin : insideB x a = true
    · rw [if_pos (.inr hin)]
      obtain ⟨r, rfl⟩ := inside_iff.1 hin
      by_cases hr : r ∈ bs
      · rw [if_pos ⟨r, hr, rfl⟩]
      · split
        · rfl
        · cases hf : filF φ l (a ++ [47] ++ r) with
          | none => rfl
          | some v => exact absurd ((hbs r).2 (by rw [hf]; rfl)) hr
    · rw [if_neg (by rintro (h | h); exact hxa h; exact hin h), if_neg]
      rintro ⟨s, _, e⟩
      exact hin (inside_iff.2 ⟨s, e⟩)
end Go.Proofs.YtfpgbhimgfdddaaGreatDoor

/- The plain law of layer 3 (disk): lists of entries in their order; the files of a restart, one by one. No program in sight. -/
namespace Go.Proofs.YtfpgbhimgfdddaaGreatDoor

/-! ### sorted lists of entries -/
def LeE (x y : En) : Prop := ¬ y.name < x.name
theorem insE_perm (x : En) : ∀ l : List En, (insE x l).Perm (x :: l)
  | [] => .refl _
  | y :: l => by
    unfold insE
    split
    · exact .refl _
    · exact ((insE_perm x l).cons y).trans (.swap x y l)
theorem insE_sorted (x : En) : ∀ {l : List En}, l.Pairwise LeE → (insE x l).Pairwise LeE
  | [], _ => List.pairwise_singleton _ _
  | y :: l, h => by
    have h1 := List.pairwise_cons.1 h
    unfold insE
    split
    · rename_i hxy
      refine List.pairwise_cons.2 ⟨fun z hz => ?_, h⟩
      rcases List.mem_cons.1 hz with rfl | hz
      · intro h2
        exact List.lt_irrefl _ (List.lt_trans hxy h2)
      · intro h2
        exact h1.1 z hz (List.lt_trans h2 hxy)
    · rename_i hxy
      refine List.pairwise_cons.2 ⟨fun z hz => ?_, insE_sorted x h1.2⟩
      rcases List.mem_cons.1 ((insE_perm x l).mem_iff.1 hz) with rfl | hz
      · exact hxy
      · exact h1.1 z hz
theorem foldE_perm : ∀ (l acc : List En), (l.foldl (fun acc x => insE x acc) acc).Perm (l ++ acc)
  | [], _ => .refl _
  | x :: l, acc => by
    rw [List.foldl_cons]
    refine (foldE_perm l _).trans ?_
    refine ((insE_perm x acc).append_left l).trans ?_
    rw [List.cons_append]
    exact List.perm_middle
theorem foldE_sorted : ∀ (l : List En) {acc : List En}, acc.Pairwise LeE → (l.foldl (fun acc x => insE x acc) acc).Pairwise LeE
  | [], _, h => h
  | x :: l, _, h => foldE_sorted l (insE_sorted x h)
theorem sortE_perm (l : List En) : (sortE l).Perm l := by
  have := foldE_perm l []
  rw [List.append_nil] at this
  exact this
theorem sortE_sorted (l : List En) : (sortE l).Pairwise LeE := foldE_sorted l List.Pairwise.nil
theorem sorted_one : ∀ {l l' : List En}, l.Perm l' → l.Pairwise LeE → l'.Pairwise LeE → (l.map En.name).Nodup → l = l'
  | [], l', h, _, _, _ => (List.nil_perm.1 h).symm
  | x :: l, [], h, _, _, _ => absurd (h.length_eq) (by simp)
  | x :: l, y :: m, h, h1, h2, hn => by
    have k1 := List.pairwise_cons.1 h1
    have k2 := List.pairwise_cons.1 h2
    have kn := List.nodup_cons.1 (by simpa using hn : (x.name :: l.map En.name).Nodup)
    by_cases e : x = y
    · subst e
      rw [sorted_one h.cons_inv k1.2 k2.2 kn.2]
    · have hx : x ∈ m := by
        rcases List.mem_cons.1 (h.mem_iff.1 (List.mem_cons_self ..)) with h3 | h3
        · exact absurd h3 e
        · exact h3
      have hy : y ∈ l := by
        rcases List.mem_cons.1 (h.mem_iff.2 (List.mem_cons_self ..)) with h3 | h3
        · exact absurd h3.symm e
        · exact h3
      have : x.name = y.name := txt_tri (k2.1 x hx) (k1.1 y hy)
      exact absurd (List.mem_map.2 ⟨y, hy, this.symm⟩) kn.1

/-! ### a restart's files -/
theorem sortedF_mem {l : List Th} {e : En} : e ∈ sortedF l ↔ ∃ x ∈ l, x.dir = false ∧ e = ⟨x.path, false, x.at_⟩ := by
  unfold sortedF
  rw [(sortE_perm _).mem_iff, List.mem_map]
  constructor
  · rintro ⟨x, hx, rfl⟩
    have := List.mem_filter.1 hx
    exact ⟨x, this.1, by simpa using this.2, rfl⟩
  · rintro ⟨x, hx, h1, rfl⟩
    exact ⟨x, List.mem_filter.2 ⟨hx, by simp [h1]⟩, rfl⟩
theorem sortedF_asc {l : List Th} (h : (l.map Th.path).Nodup) : Asc ((sortedF l).map En.name) := by
  have hn : ((sortedF l).map En.name).Nodup := by
    unfold sortedF
    rw [((sortE_perm _).map En.name).nodup_iff]
    rw [List.map_map]
    have : (En.name ∘ fun x : Th => (⟨x.path, false, x.at_⟩ : En)) = Th.path := by funext x; rfl
    rw [this]
    exact (List.Sublist.map _ List.filter_sublist).nodup h
  unfold Asc
  rw [List.pairwise_map]
  have hs : (sortedF l).Pairwise LeE := sortE_sorted _
  rw [List.nodup_iff_pairwise_ne, List.pairwise_map] at hn
  refine (hs.and hn).imp ?_
  rintro x y ⟨h1, h2⟩
  rcases Classical.em (x.name < y.name) with h3 | h3
  · exact h3
  · exact absurd (txt_tri h3 h1) h2
theorem sortedF_names {l : List Th} (h : (l.map Th.path).Nodup) {ks : List Txt} (ha : Asc ks) (hm : ∀ x, x ∈ ks ↔ ∃ y ∈ l, y.dir = false ∧ y.path = x) : (sortedF l).map En.name = ks := by
  refine asc_one (sortedF_asc h) ha fun x => ?_
  rw [hm, List.mem_map]
  constructor
  · rintro ⟨e, he, rfl⟩
    obtain ⟨y, hy, h1, rfl⟩ := sortedF_mem.1 he
    exact ⟨y, hy, h1, rfl⟩
  · rintro ⟨y, hy, h1, rfl⟩
    exact ⟨_, sortedF_mem.2 ⟨y, hy, h1, rfl⟩, rfl⟩
theorem keepAll_snoc (data : List Int) (z : Bool) (x : En) : ∀ (l : List En) (i : Nat) (fs : List By),
    keepAll data z (l ++ [x]) i fs = (keepAll data z l i fs).set x.size (keepF ((keepAll data z l i fs)[x.size]?.getD default) (if data = [] then 0 else data[(i + l.length) % data.length]?.getD 0) z)
  | [], i, fs => by simp [keepAll]
  | y :: l, i, fs => by
    rw [List.cons_append, keepAll, keepAll_snoc data z x l, keepAll, List.length_cons, show i + 1 + l.length = i + (l.length + 1) by omega]
theorem keepAll_take (data : List Int) (z : Bool) (l : List En) (fs : List By) {i : Nat} (hi : i < l.length) :
    keepAll data z (l.take (i + 1)) 0 fs = (keepAll data z (l.take i) 0 fs).set l[i]!.size (keepF ((keepAll data z (l.take i) 0 fs)[l[i]!.size]?.getD default) (if data = [] then 0 else data[i % data.length]?.getD 0) z) := by
  have e : l.take (i + 1) = l.take i ++ [l[i]!] := by rw [List.take_add_one, List.getElem?_eq_getElem hi, getElem!_pos l i hi]; rfl
  rw [e, keepAll_snoc, List.length_take, Nat.min_eq_left (by omega), Nat.zero_add]

/-! ### a list of entries -/
theorem entD_nodup {d : Ds} (h : (d.things.map Th.path).Nodup) (dir : Txt) : ((entD d dir).map En.name).Nodup := by
  unfold entD
  generalize d.things = th at h
  induction th with
  | nil => simp
  | cons x l ih =>
    have h1 := List.nodup_cons.1 (by simpa using h : (x.path :: l.map Th.path).Nodup)
    have ih' := ih h1.2
    rw [List.filterMap_cons]
    split
    · exact ih'
    · rename_i e he
      rw [List.map_cons, List.nodup_cons]
      refine ⟨fun hm => ?_, ih'⟩
      obtain ⟨e2, he2, hne⟩ := List.mem_map.1 hm
      obtain ⟨y, hy, hey⟩ := List.mem_filterMap.1 he2
      refine h1.1 (List.mem_map.2 ⟨y, hy, ?_⟩)
      by_cases hd : dir = []
      · rw [if_pos hd] at he hey
        split at he
        · cases he
        · split at hey
          · cases hey
          · injection he with he
            injection hey with hey
            rw [← he, ← hey] at hne
            exact hne
      · rw [if_neg hd] at he hey
        split at he
        · rename_i hx
          split at hey
          · rename_i hyy
            injection he with he
            injection hey with hey
            rw [← he, ← hey] at hne
            obtain ⟨r, hr⟩ := inside_iff.1 hx
            obtain ⟨s, hs⟩ := inside_iff.1 hyy
            have e1 : x.path.drop (dir.length + 1) = r := by rw [hr]; simp
            have e2 : y.path.drop (dir.length + 1) = s := by rw [hs]; simp
            simp only at hne
            rw [e1, e2] at hne
            rw [hr, hs, hne]
          · cases hey
        · cases he
theorem sortE_one {d : Ds} (h : (d.things.map Th.path).Nodup) {dir : Txt} {l : List En} (hp : l.Perm (entD d dir)) (hs : l.Pairwise LeE) : l = sortE (entD d dir) :=
  sorted_one (hp.trans (sortE_perm _).symm) hs (sortE_sorted _) ((hp.map En.name).nodup_iff.2 (entD_nodup h dir))
end Go.Proofs.YtfpgbhimgfdddaaGreatDoor
