/- Merged (what the claim wants of): DskPlain4, DskWalksE, DskWalksF. -/
import Derived.Test.YtfpgbhimgfdddaaGreatDoorWak03
import Derived.Deep.DeepCutAuto
set_option linter.unusedVariables false
set_option linter.unusedSimpArgs false
/- The plain law of layer 3 (disk): a rename, key by key. No program in sight. -/
namespace Go.Proofs.YtfpgbhimgfdddaaGreatDoor
variable {n : Nat} {l : List Th} {φ : List Nat} {a b : Txt} {i : Nat}

theorem isT_one {l : List Th} (h : (l.map Th.path).Nodup) {a : Txt} : isT l a = 1 ↔ ∃ x ∈ l, x.dir = false ∧ x.path = a := by
  constructor
  · intro e
    obtain ⟨x, hx, e1, e2⟩ := isT_cases (a := a) (by rw [e]; omega)
    rw [e] at e2
    refine ⟨x, hx, ?_, e1⟩
    cases hd : x.dir with
    | false => rfl
    | true => rw [hd] at e2; simp at e2
  · rintro ⟨x, hx, hd, rfl⟩
    rw [isT_of h hx, hd]
    rfl
theorem isT_two {l : List Th} (h : (l.map Th.path).Nodup) {a : Txt} : isT l a = 2 ↔ ∃ x ∈ l, x.dir = true ∧ x.path = a := by
  constructor
  · intro e
    obtain ⟨x, hx, e1, e2⟩ := isT_cases (a := a) (by rw [e]; omega)
    rw [e] at e2
    refine ⟨x, hx, ?_, e1⟩
    cases hd : x.dir with
    | true => rfl
    | false => rw [hd] at e2; simp at e2
  · rintro ⟨x, hx, hd, rfl⟩
    rw [isT_of h hx, hd]
    rfl
theorem isT_range (l : List Th) (a : Txt) : isT l a = 0 ∨ isT l a = 1 ∨ isT l a = 2 := by
  unfold isT
  split
  · exact .inl rfl
  · split
    · exact .inr (.inr rfl)
    · exact .inr (.inl rfl)
theorem dirF_two (hw : TW n l) {x : Txt} : (dirF l x).isSome = true ↔ isT l x = 2 := by rw [dirF_some, isT_two hw.nodup]
theorem filF_one (hw : TW n l) {x : Txt} : (filF φ l x).isSome = true ↔ isT l x = 1 := by
  rw [isT_one hw.nodup]
  constructor
  · intro h
    obtain ⟨v, hv⟩ := Option.isSome_iff_exists.1 h
    obtain ⟨y, hy, h1, h2, _⟩ := (filF_iff hw.nodup).1 hv
    exact ⟨y, hy, h1, h2⟩
  · rintro ⟨y, hy, h1, h2⟩
    rw [(filF_iff hw.nodup).2 ⟨y, hy, h1, h2, rfl⟩]
    rfl
theorem dirF_ren_file (hw : TW n l) (h : StOk n l (.rename a b)) (ha : isT l a = 1) : dirF (applyS l (.rename a b)) = dirF l := by
  funext x
  refine dirF_eq ?_
  constructor
  · rintro ⟨z, hz, h1, rfl⟩
    obtain ⟨y, hy, hyb, rfl⟩ := ren_mem.1 hz
    rw [(mv_dir y).1] at h1
    rcases mv_path (a := a) (b := b) y with ⟨k1, k2⟩ | ⟨r, k1, k2⟩ | ⟨k1, k2, k3⟩
    · have := isT_of hw.nodup hy
      rw [k1, h1, ha] at this
      simp at this
    · have := name_not_inside (d := a) (hw.dirs y hy h1)
      rw [inside_iff.2 ⟨r, k1⟩] at this
      cases this
    · rw [k3]; exact ⟨y, hy, h1, rfl⟩
  · rintro ⟨y, hy, h1, rfl⟩
    have hya : y.path ≠ a := by
      intro e
      have := isT_of hw.nodup hy
      rw [e, h1, ha] at this
      simp at this
    have hyb : y.path ≠ b := by
      intro e
      have := isT_of hw.nodup hy
      rw [e, h1] at this
      exact h.2.2.2.2.1 this
    exact ⟨y, ren_mem.2 ⟨y, hy, hyb, mv_other hya (name_not_inside (hw.dirs y hy h1))⟩, h1, rfl⟩
theorem filF_ren_file (hw : TW n l) (h : StOk n l (.rename a b)) (ha : isT l a = 1) : filF φ (applyS l (.rename a b)) = upd (upd (filF φ l) b (filF φ l a)) a none := by
  have hw2 := hw.rename h
  have hab := h.2.2.2.2.2.2
  have hno : ∀ y ∈ l, insideB y.path a = false := fun y hy => none_in hw (by rw [ha]; omega) h.1 hy
  funext x
  apply opt_ext
  intro v
  rw [filF_iff hw2.nodup]
  unfold upd
  by_cases hxa : x = a
  · subst hxa
    simp only [if_pos]
    simp only [reduceCtorEq, iff_false]
    rintro ⟨z, hz, h1, h2, _⟩
    obtain ⟨y, hy, hyb, rfl⟩ := ren_mem.1 hz
    rcases mv_path (a := x) (b := b) y with ⟨k1, k2⟩ | ⟨r, k1, k2⟩ | ⟨k1, k2, k3⟩
    · rw [k2] at h2; exact hab h2.symm
    · have := hno y hy
      rw [inside_iff.2 ⟨r, k1⟩] at this
      cases this
    · rw [k3] at h2; exact k1 h2
  · rw [if_neg hxa]
    by_cases hxb : x = b
    · subst hxb
      rw [if_pos rfl, filF_iff hw.nodup]
      constructor
      · rintro ⟨z, hz, h1, h2, h3⟩
        obtain ⟨y, hy, hyb, rfl⟩ := ren_mem.1 hz
        rw [(mv_dir y).1] at h1
        rw [(mv_dir y).2] at h3
        rcases mv_path (a := a) (b := x) y with ⟨k1, k2⟩ | ⟨r, k1, k2⟩ | ⟨k1, k2, k3⟩
        · exact ⟨y, hy, h1, k1, h3⟩
        · have := hno y hy
          rw [inside_iff.2 ⟨r, k1⟩] at this
          cases this
        · rw [k3] at h2; exact absurd h2 hyb
      · rintro ⟨y, hy, h1, h2, h3⟩
        exact ⟨mv a x y, ren_mem.2 ⟨y, hy, by rw [h2]; exact hab, rfl⟩, by rw [(mv_dir y).1]; exact h1, mv_self h2, by rw [(mv_dir y).2]; exact h3⟩
    · rw [if_neg hxb, filF_iff hw.nodup]
      constructor
      · rintro ⟨z, hz, h1, h2, h3⟩
        obtain ⟨y, hy, hyb, rfl⟩ := ren_mem.1 hz
        rw [(mv_dir y).1] at h1
        rw [(mv_dir y).2] at h3
        rcases mv_path (a := a) (b := b) y with ⟨k1, k2⟩ | ⟨r, k1, k2⟩ | ⟨k1, k2, k3⟩
        · rw [k2] at h2; exact absurd h2.symm hxb
        · have := hno y hy
          rw [inside_iff.2 ⟨r, k1⟩] at this
          cases this
        · rw [k3] at h2
          exact ⟨y, hy, h1, h2, h3⟩
      · rintro ⟨y, hy, h1, rfl, h3⟩
        exact ⟨y, ren_mem.2 ⟨y, hy, hxb, mv_other hxa (hno y hy)⟩, h1, rfl, h3⟩
theorem dirF_ren_dir (hw : TW n l) (h : StOk n l (.rename a b)) (ha : isT l a = 2) : dirF (applyS l (.rename a b)) = upd (upd (dirF l) a none) b (some (.int .i64 1)) := by
  have hab := h.2.2.2.2.2.2
  obtain ⟨z, hz, hzd, hzp⟩ := (isT_two hw.nodup).1 ha
  funext x
  unfold upd
  by_cases hxb : x = b
  · subst hxb
    rw [if_pos rfl]
    have : (dirF (applyS l (.rename a x)) x).isSome = true := dirF_some.2 ⟨mv a x z, ren_mem.2 ⟨z, hz, by rw [hzp]; exact hab, rfl⟩, by rw [(mv_dir z).1]; exact hzd, mv_self hzp⟩
    obtain ⟨v, hv⟩ := Option.isSome_iff_exists.1 this
    rw [hv, dirF_val hv]
  · rw [if_neg hxb]
    by_cases hxa : x = a
    · subst hxa
      rw [if_pos rfl]
      cases hd : dirF (applyS l (.rename x b)) x with
      | none => rfl
      | some v =>
        obtain ⟨u, hu, h1, h2⟩ := dirF_some.1 (show (dirF (applyS l (.rename x b)) x).isSome = true by rw [hd]; rfl)
        obtain ⟨y, hy, hyb, rfl⟩ := ren_mem.1 hu
        rw [(mv_dir y).1] at h1
        rcases mv_path (a := x) (b := b) y with ⟨k1, k2⟩ | ⟨r, k1, k2⟩ | ⟨k1, k2, k3⟩
        · rw [k2] at h2; exact absurd h2.symm hxb
        · have := name_not_inside (d := x) (hw.dirs y hy h1)
          rw [inside_iff.2 ⟨r, k1⟩] at this
          cases this
        · rw [k3] at h2; exact absurd h2 k1
    · rw [if_neg hxa]
      refine dirF_eq ?_
      constructor
      · rintro ⟨u, hu, h1, rfl⟩
        obtain ⟨y, hy, hyb, rfl⟩ := ren_mem.1 hu
        rw [(mv_dir y).1] at h1
        rcases mv_path (a := a) (b := b) y with ⟨k1, k2⟩ | ⟨r, k1, k2⟩ | ⟨k1, k2, k3⟩
        · exact absurd k2 hxb
        · have := name_not_inside (d := a) (hw.dirs y hy h1)
          rw [inside_iff.2 ⟨r, k1⟩] at this
          cases this
        · rw [k3]; exact ⟨y, hy, h1, rfl⟩
      · rintro ⟨y, hy, h1, rfl⟩
        exact ⟨y, ren_mem.2 ⟨y, hy, hxb, mv_other hxa (name_not_inside (hw.dirs y hy h1))⟩, h1, rfl⟩
/-- A directory's files move. -/
def mvF (f : Txt → Option Value) (a b : Txt) (bs : List Txt) : Txt → Option Value := bs.foldl (fun g s => upd (upd g (b ++ [47] ++ s) (g (a ++ [47] ++ s))) (a ++ [47] ++ s) none) f
theorem mvF_at (f : Txt → Option Value) (hab : ∀ s t : Txt, a ++ [47] ++ s ≠ b ++ [47] ++ t) : ∀ (bs : List Txt), bs.Nodup → ∀ g : Txt → Option Value, (∀ s ∈ bs, g (a ++ [47] ++ s) = f (a ++ [47] ++ s)) → ∀ x,
    mvF g a b bs x = if ∃ s ∈ bs, x = a ++ [47] ++ s then none else match bs.find? (fun s => x == b ++ [47] ++ s) with | some s => f (a ++ [47] ++ s) | none => g x
  | [], _, g, _, x => by simp [mvF]
  | s :: bs, hn, g, hg, x => by
    rw [List.nodup_cons] at hn
    have hs : g (a ++ [47] ++ s) = f (a ++ [47] ++ s) := hg s (by simp)
    have hg' : ∀ t ∈ bs, upd (upd g (b ++ [47] ++ s) (g (a ++ [47] ++ s))) (a ++ [47] ++ s) none (a ++ [47] ++ t) = f (a ++ [47] ++ t) := by
      intro t ht
      unfold upd
      rw [if_neg (fun e => hn.1 (by rw [← app_cancel e]; exact ht)), if_neg (hab t s)]
      exact hg t (by simp [ht])
    have ih := mvF_at f hab bs hn.2 _ hg' x
    show mvF (upd (upd g (b ++ [47] ++ s) (g (a ++ [47] ++ s))) (a ++ [47] ++ s) none) a b bs x = _
    rw [ih]
    by_cases hx : ∃ t ∈ bs, x = a ++ [47] ++ t
    · obtain ⟨t, ht, e⟩ := hx
      rw [if_pos ⟨t, ht, e⟩, if_pos ⟨t, by simp [ht], e⟩]
    · rw [if_neg hx]
      by_cases hxs : x = a ++ [47] ++ s
      · rw [if_pos ⟨s, by simp, hxs⟩]
        have hf : bs.find? (fun t => x == b ++ [47] ++ t) = none := by
          rw [List.find?_eq_none]
          intro t _
          simp only [beq_iff_eq]
          rw [hxs]
          exact hab s t
        rw [hf]
        simp [upd, hxs]
      · rw [if_neg (by rintro ⟨t, ht, e⟩; rcases List.mem_cons.1 ht with rfl | ht; exact hxs e; exact hx ⟨t, ht, e⟩)]
        rw [List.find?_cons]
        by_cases hxb : x = b ++ [47] ++ s
        · have hf : bs.find? (fun t => x == b ++ [47] ++ t) = none := by
            rw [List.find?_eq_none]
            intro t ht
            simp only [beq_iff_eq]
            rw [hxb]
            intro e
            exact hn.1 (by rw [app_cancel e]; exact ht)
          rw [hf]
          have hbe : (x == b ++ [47] ++ s) = true := by simpa using hxb
          rw [hbe]
          simp only []
          unfold upd
          rw [if_neg hxs, if_pos hxb, hs]
        · have hbe : (x == b ++ [47] ++ s) = false := by simpa using hxb
          rw [hbe]
          simp only []
          cases bs.find? (fun t => x == b ++ [47] ++ t) with
          | some t => rfl
          | none =>
            simp only []
            unfold upd
            rw [if_neg hxs, if_neg hxb]
theorem filF_ren_dir (hw : TW n l) (h : StOk n l (.rename a b)) (ha : isT l a = 2) {bs : List Txt} (hnd : bs.Nodup) (hbs : ∀ x, x ∈ bs ↔ (filF φ l (a ++ [47] ++ x)).isSome = true) : filF φ (applyS l (.rename a b)) = mvF (filF φ l) a b bs := by
  have hw2 := hw.rename h
  have hab := h.2.2.2.2.2.2
  obtain ⟨hnb, hb0⟩ := h.2.2.2.2.2.1 ha
  obtain ⟨z, hz, hzd, hzp⟩ := (isT_two hw.nodup).1 ha
  have hna : nameB a = true := by rw [← hzp]; exact hw.dirs z hz hzd
  have hne : ∀ s t : Txt, a ++ [47] ++ s ≠ b ++ [47] ++ t := by
    intro s t e
    have h1 := slashAt_app s (nameB_slash hna)
    have h2 := slashAt_app t (nameB_slash hnb)
    rw [e, h2] at h1
    injection h1 with h1
    apply hab
    have h3 := congrArg (List.take b.length) e
    rw [List.append_assoc, List.append_assoc, List.take_left] at h3
    rw [← h3, h1, List.take_left]
  funext x
  rw [mvF_at (filF φ l) hne bs hnd (filF φ l) (fun _ _ => rfl) x]
  apply opt_ext
  intro v
  rw [filF_iff hw2.nodup]
  by_cases hxa : ∃ s ∈ bs, x = a ++ [47] ++ s
  · rw [if_pos hxa]
    obtain ⟨s, _, rfl⟩ := hxa
    simp only [reduceCtorEq, iff_false]
    rintro ⟨u, hu, h1, h2, _⟩
    obtain ⟨y, hy, hyb, rfl⟩ := ren_mem.1 hu
    rcases mv_path (a := a) (b := b) y with ⟨k1, k2⟩ | ⟨r, k1, k2⟩ | ⟨k1, k2, k3⟩
    · rw [k2] at h2
      have := nameB_slash hnb
      rw [h2, slashAt_app s (nameB_slash hna)] at this
      cases this
    · rw [k2] at h2; exact hne s r h2.symm
    · rw [k3] at h2
      rw [inside_iff.2 ⟨s, h2⟩] at k2
      cases k2
  · rw [if_neg hxa]
    cases hf : bs.find? (fun s => x == b ++ [47] ++ s) with
    | some s =>
      have h1 := List.find?_some hf
      simp only [beq_iff_eq] at h1
      subst h1
      simp only []
      rw [filF_iff hw.nodup]
      constructor
      · rintro ⟨u, hu, h1, h2, h3⟩
        obtain ⟨y, hy, hyb, rfl⟩ := ren_mem.1 hu
        rw [(mv_dir y).1] at h1
        rw [(mv_dir y).2] at h3
        rcases mv_path (a := a) (b := b) y with ⟨k1, k2⟩ | ⟨r, k1, k2⟩ | ⟨k1, k2, k3⟩
        · rw [k2] at h2
          have := congrArg List.length h2
          simp at this
        · rw [k2] at h2
          have := app_cancel h2
          subst this
          exact ⟨y, hy, h1, k1, h3⟩
        · rw [k3] at h2
          have := ren_free hw h hy
          rw [inside_iff.2 ⟨s, h2⟩] at this
          cases this
      · rintro ⟨y, hy, h1, h2, h3⟩
        have hyb : y.path ≠ b := by
          intro e
          exact isT_zero.1 hb0 y hy e
        exact ⟨mv a b y, ren_mem.2 ⟨y, hy, hyb, rfl⟩, by rw [(mv_dir y).1]; exact h1, mv_in h2, by rw [(mv_dir y).2]; exact h3⟩
    | none =>
      simp only []
      rw [filF_iff hw.nodup]
      simp only [List.find?_eq_none, beq_iff_eq] at hf
      constructor
      · rintro ⟨u, hu, h1, h2, h3⟩
        obtain ⟨y, hy, hyb, rfl⟩ := ren_mem.1 hu
        rw [(mv_dir y).1] at h1
        rw [(mv_dir y).2] at h3
        rcases mv_path (a := a) (b := b) y with ⟨k1, k2⟩ | ⟨r, k1, k2⟩ | ⟨k1, k2, k3⟩
        · have := isT_of hw.nodup hy
          rw [k1, h1, ha] at this
          simp at this
        · rw [k2] at h2
          have hr : r ∈ bs := (hbs r).2 (by rw [(filF_iff hw.nodup).2 ⟨y, hy, h1, k1, rfl⟩]; rfl)
          exact absurd h2.symm (hf r hr)
        · rw [k3] at h2; exact ⟨y, hy, h1, h2, h3⟩
      · rintro ⟨y, hy, h1, rfl, h3⟩
        have hya : y.path ≠ a := by
          intro e
          have := isT_of hw.nodup hy
          rw [e, h1, ha] at this
          simp at this
        have hin : insideB y.path a = false := by
          cases hi : insideB y.path a with
          | false => rfl
          | true =>
            obtain ⟨r, hr⟩ := inside_iff.1 hi
            exact absurd ⟨r, (hbs r).2 (by rw [(filF_iff hw.nodup).2 ⟨y, hy, h1, hr, rfl⟩]; rfl), hr⟩ hxa
        exact ⟨y, ren_mem.2 ⟨y, hy, fun e => isT_zero.1 hb0 y hy e, mv_other hya hin⟩, h1, rfl, h3⟩
/-- A directory's files go. -/
def rmF (f : Txt → Option Value) (a : Txt) (bs : List Txt) : Txt → Option Value := bs.foldl (fun g s => upd g (a ++ [47] ++ s) none) f
theorem rmF_at : ∀ (bs : List Txt) (f : Txt → Option Value) (x : Txt), rmF f a bs x = if ∃ s ∈ bs, x = a ++ [47] ++ s then none else f x
  | [], f, x => by simp [rmF]
  | s :: bs, f, x => by
    show rmF (upd f (a ++ [47] ++ s) none) a bs x = _
    rw [rmF_at bs]
    by_cases hx : ∃ t ∈ bs, x = a ++ [47] ++ t
    · obtain ⟨t, ht, e⟩ := hx
      rw [if_pos ⟨t, ht, e⟩, if_pos ⟨t, by simp [ht], e⟩]
    · rw [if_neg hx]
      unfold upd
      by_cases hxs : x = a ++ [47] ++ s
      · rw [if_pos hxs, if_pos ⟨s, by simp, hxs⟩]
      · rw [if_neg hxs, if_neg (by rintro ⟨t, ht, e⟩; rcases List.mem_cons.1 ht with rfl | ht; exact hxs e; exact hx ⟨t, ht, e⟩)]
theorem filF_rm (hw : TW n l) {bs : List Txt} (hbs : ∀ x, x ∈ bs ↔ (filF φ l (a ++ [47] ++ x)).isSome = true) : filF φ (applyS l (.remove a)) = upd (rmF (filF φ l) a bs) a none := by
  funext x
  rw [filF_remove hw]
  unfold upd
  rw [rmF_at]
  by_cases hxa : x = a
  · rw [if_pos (.inl hxa), if_pos hxa]
  · rw [if_neg hxa]
    by_cases hin : insideB x a = true
    · rw [if_pos (.inr hin)]
      obtain ⟨r, rfl⟩ := inside_iff.1 hin
      by_cases hr : r ∈ bs
      · rw [if_pos ⟨r, hr, rfl⟩]
      · split
        · rfl
        · cases hf : filF φ l (a ++ [47] ++ r) with
          | none => rfl
          | some v => exact absurd ((hbs r).2 (by rw [hf]; rfl)) hr
    · rw [if_neg (by rintro (h | h); exact hxa h; exact hin h), if_neg]
      rintro ⟨s, _, e⟩
      exact hin (inside_iff.2 ⟨s, e⟩)
end Go.Proofs.YtfpgbhimgfdddaaGreatDoor

/- The walks of layer 3 (disk): the names in a directory; the steps that a closure holds. -/
namespace Go.Proofs.YtfpgbhimgfdddaaGreatDoor
open Go.RowKit Go.Shelf Go.Maps Go.Sort
attribute [local go_sem ↓] Go.wp_at_zero Go.wp_at_succ
attribute [local go_sem] Later.cell Later.frozen

theorem law3 : Keyed Tryz.prog 9 := string_keyed Tryz.underlying9
theorem zeroI (w : World) : (zeroValue 3).run Tryz.prog w = .ok (.int .i64 0) w := by kernel_rfl
theorem zeroFl (w : World) : (zeroValue 140).run Tryz.prog w = .ok (.pointer none) w := by kernel_rfl

def WithinOut (w : World) (f : Txt → Option Value) (dir : Txt) (e : Ending) (w' : World) : Prop :=
  ∃ (A : Option Addr) (c : Nat) (bs : List Txt), e = .returned (.slice A bs.length c) ∧ Strs w' A bs.length bs ∧ bs.length ≤ c ∧ Asc bs ∧ (∀ x, x ∈ bs ↔ (f (dir ++ [47] ++ x)).isSome = true) ∧ Below w.heap.size w w'
theorem prefix_iff {k p : Txt} : Lib.hasPrefix k p = true ↔ ∃ x, k = p ++ x := by
  unfold Lib.hasPrefix
  rw [List.isPrefixOf_iff_prefix]
  constructor
  · rintro ⟨x, h⟩; exact ⟨x, h.symm⟩
  · rintro ⟨x, h⟩; exact ⟨x, h.symm⟩
theorem trim_of {p x : Txt} : Lib.trimPrefix (p ++ x) p = x := by
  unfold Lib.trimPrefix
  rw [if_pos (prefix_iff.2 ⟨x, rfl⟩)]
  simp
theorem same_str {x y : Txt} : (Lit.string x).sameKey (.string y) = true ↔ x = y := by simp [Lit.sameKey]
theorem out_len {dir : Txt} {out L : List Txt} (hn : out.Nodup) (h : ∀ x ∈ out, dir ++ [47] ++ x ∈ L) : out.length ≤ L.length := by
  have := nodup_len (out.map fun x => dir ++ [47] ++ x) L (nodup_map_inj hn fun x _ y _ e => app_cancel e) (by
    intro x hx
    obtain ⟨y, hy, rfl⟩ := List.mem_map.1 hx
    exact h y hy)
  simpa using this
theorem dir_bytes (d : ByteArray) : (d ++ (⟨#[47]⟩ : ByteArray)).data.toList = d.data.toList ++ [47] := by simp

set_option maxRecDepth 100000 in
set_option maxHeartbeats 4000000 in
theorem within_calls (md mf : Option Nat) (b : Nat) (hmf : mf = some b) (f : Txt → Option Value) (dir : ByteArray) (w : World) (h : SM w b f) (L : List Txt) (hL : ∀ x, (f x).isSome = true → x ∈ L) (hn : L.length ≤ 1073741824) (hdz : dir.size ≤ 1073741824) (hz : ∀ x ∈ L, x.length ≤ 1073741824) :
    Calls Tryz.prog 82 #[.agg #[.map md, .map mf], .string dir] w (WithinOut w f dir.data.toList) := by
  obtain ⟨i0, hi0, hz0, hz1, hz2⟩ := info_parts info_string
  subst hmf
  obtain ⟨D, hown, hhas, hat⟩ := h
  have hsize := SMap.size_le Tryz.underlying9 hown L (fun x hx => hL x (by rw [← hhas]; exact hx))
  have HHAS := Lib.hid hhas
  have HAT := Lib.hid hat
  have HL := Lib.hid hL
  have HZ := Lib.hid hz
  clear hhas hat hL hz
  have hbl := hown.lt
  go_enter Tryz.func82, Tryz.ntmps82
  go_upto_region 2 with fail
  have hown1 := hown.alloc (.cells #[.map md, .map (some b)] 122)
  have hB1 : Below w.heap.size w (w.alloc (.cells #[.map md, .map (some b)] 122)) := (Below.refl _ _).alloc (Nat.le_refl _) _
  have hq : Blk (w.alloc (.cells #[.map md, .map (some b)] 122)) w.heap.size 122 #[.map md, .map (some b)] := Blk.new _ _ _
  obtain ⟨w1, hw1⟩ : ∃ x, w.alloc (.cells #[.map md, .map (some b)] 122) = x := ⟨_, rfl⟩
  rw [hw1] at hown1 hB1 hq ⊢
  have q1 : _ = some (Value.map (some b)) := hq.cell 1
  clear hw1
  go_wp2_with (at_range; refine wpList_range_own _ rfl _ 120 rfl 9 140 law3 Tryz.underlying120 HR b (Maps.size D) D rfl hown1 ?_; intro w0 hrg0 hg0 hs0)
  obtain ⟨r, hr⟩ : ∃ r, w1.heap.size = r := ⟨_, rfl⟩
  have hB0 : Below w.heap.size w w0 := hB1.trans ⟨hg0.os, hg0.tape, hg0.output, hg0.size, fun k hk => hg0.block k (by have := hB1.size; omega) (by simp)⟩
  have hrl : w.heap.size ≤ r := by rw [← hr]; exact hB1.size
  rw [hr] at hrg0 ⊢
  clear hr hs0
  go_frame
  go_loopg [5] (Maps.size D) (fun g s5 wr => ∃ (left : Lit → Bool) (cnt : Nat) (out : List Txt) (v5 : Value), v5 = s5 ∧ cnt ≤ g ∧ wr.ranges Tryz.prog 9 HR b r (Maps.size D) D left cnt ∧ wr.ownsRow (r + 1) 9 1 v5 out.length (out.map txtV) ∧ out.Nodup ∧ (∀ x, x ∈ out ↔ (f (dir.data.toList ++ [47] ++ x)).isSome = true ∧ left (.string (dir.data.toList ++ [47] ++ x)) = false) ∧ Below w.heap.size w wr)
  case atStart =>
    refine ⟨Maps.has D, Maps.size D, [], _, rfl, Nat.le_refl _, hrg0, World.ownsRow_nil _ _ _ _, List.nodup_nil, fun x => ?_, hB0⟩
    rw [HHAS.out (dir.data.toList ++ [47] ++ x)]
    cases (f (dir.data.toList ++ [47] ++ x)).isSome <;> simp
  case round =>
    obtain ⟨left, cnt, out, v5, rfl, hcg, hrg, hrow, hnd, hout, hB⟩ := hrel
    have HOUT := Lib.hid hout
    have hol : out.length ≤ 1073741824 := Nat.le_trans (out_len hnd fun x hx => HL.out _ ((HOUT.out x).1 hx).1) hn
    clear hout
    go_wp2_with (at_next; refine wpList_next_ranges _ rfl _ rfl 9 law3 HR Value.string (fun v : Value => v) (fun key kl hk => by obtain ⟨x, e, _⟩ := Maps.keyOf_str Tryz.underlying9 hk; exact ⟨_, e⟩) (fun v _ _ => ⟨v, rfl⟩) b r (Maps.size D) D left cnt rfl hrg ?_ ?_)
    · intro hc0 hl0
      have hout2 : ∀ x, x ∈ out ↔ (f (dir.data.toList ++ [47] ++ x)).isSome = true := fun x => by rw [HOUT.out x, hl0]; simp
      have HO2 := Lib.hid hout2
      have HND := Lib.hid hnd
      have HL0 := Lib.hid hl0
      clear hout2 hl0 hnd hc0
      obtain ⟨A, c, rfl, hs, hbase, hcc⟩ := Strs.of_own hrow rfl
      obtain ⟨m, hm⟩ : ∃ m, out.length = m := ⟨_, rfl⟩
      have HM := Lib.hid hm
      rw [hm] at hs hcc hrow hol ⊢
      clear hm
      by_cases hm0 : m = 0
      · subst hm0
        obtain rfl : out = [] := List.eq_nil_of_length_eq_zero HM.out
        go_wp2_with fail
        refine (Tryz.slices_Sort_string_none A c wr).mono ?_
        rintro e w3 ⟨rfl, rfl⟩
        go_wp2_with fail
        go_ret
        exact ⟨A, c, [], rfl, Strs.nil, Nat.zero_le _, List.Pairwise.nil, HO2.out, hB⟩
      · obtain ⟨g, rfl⟩ : ∃ g, A = some ⟨g, 0, none⟩ := by
          rcases hrow.2 with ⟨h1, h2⟩ | ⟨g, cap, cur, h1, _⟩
          · exact absurd h2 hm0
          · injection h1 with h1; exact ⟨g, h1⟩
        have hglt := hrow.lt g rfl
        have hsort := Tryz.slices_Sort_string g 0 c out wr (holds_own hrow HM.out) hglt.2 (by rw [HM.out]; omega)
        rw [HM.out] at hsort
        have HS := Lib.hid hsort
        clear hsort
        go_wp2_with fail
        refine HS.out.mono ?_
        rintro e w3 ⟨rfl, q, os, hw3⟩
        obtain ⟨z, hz⟩ : ∃ z, out.mergeSort (fun x y => decide (x ≤ y)) = z := ⟨_, rfl⟩
        rw [hz] at hw3
        have hzl : z.length = out.length := by rw [← hz, List.length_mergeSort]
        have hperm : z.Perm out := by rw [← hz]; exact List.mergeSort_perm out _
        have hasc : Asc z := by
          have h1 : z.Pairwise (fun a b => a ≤ b) := by
            have := List.pairwise_mergeSort (le := fun x y : Txt => decide (x ≤ y)) (by intro a b c; simp; exact List.le_trans) (by intro a b; simp; exact List.le_total a b) out
            rw [hz] at this
            simpa using this
          unfold Asc
          refine (h1.and ((hperm.nodup_iff).2 HND.out)).imp ?_
          rintro a b ⟨h1, h2⟩
          exact txt_lt_ne h1 (Ne.symm h2)
        have hcur : ∃ cur, wr.heap[g]? = some (.cells cur 9 (0, 0)) ∧ cur.size = c * 1 ∧ c ≤ maxLen := by
          rcases hrow.2 with ⟨e, _⟩ | ⟨g', cap', cur, e, _, hh, _, hcm, hsz, _⟩
          · cases e
          · injection e with e e2 e3
            injection e with e
            injection e with e
            subst e e3
            exact ⟨cur, hh, hsz, hcm⟩
        obtain ⟨cur, hcur1, hcur2, hcm⟩ := hcur
        have hown2 : w3.ownsRow (r + 1) 9 1 (.slice (some ⟨g, 0, none⟩) m c) m (z.map txtV) := by
          have := ownsRow_sorted (n := q) (os := os) (ss := out) (ts := z) (base := r + 1) (cap := c) hzl hglt.1 hcur1 (by rw [HM.out]; exact hcc) hcm hcur2
          rw [← hw3, HM.out] at this
          exact this
        have hg3 : wr.grownBy w3 (some g) := by rw [hw3]; exact grownBy_sorted _
        have hB3 : Below w.heap.size w w3 := hB.trans (own_grown hB.size hg3 (by have := hglt.1; omega))
        obtain ⟨A4, c4, e4, hs4, _, hc4⟩ := Strs.of_own hown2 (by rw [hzl, HM.out])
        injection e4 with e4 e5 e6
        subst e4 e6
        have hfin : WithinOut w f dir.data.toList (.returned (.slice (some ⟨g, 0, none⟩) m c)) w3 := by
          refine ⟨some ⟨g, 0, none⟩, c, z, by rw [hzl, HM.out], by rw [hzl, HM.out]; exact hs4, by rw [hzl, HM.out]; exact hcc, hasc, fun x => ?_, hB3⟩
          rw [hperm.mem_iff]
          exact HO2.out x
        have HFIN := Lib.hid hfin
        clear hfin hs4 hown2 hg3 hB3 hcur1 hcur2 hcm hasc hperm hzl hz hw3 hrow hs HS hrg
        go_wp2_with fail
        go_ret
        exact HFIN.out
    · intro x c kl y y2 w2 cnt2 hkx hlk hv hat2 hrg2 hlt hg2 hs2 hen
      clear hs2
      obtain ⟨k, e1, rfl, _⟩ := Maps.keyOf_str Tryz.underlying9 hkx
      have hxk : x.data.toList = k := by
        have : (Value.string x) = encStr k := e1
        unfold encStr at this
        injection this with this
        rw [this]
      have hfk : (f k).isSome = true := by rw [← HHAS.out k]; exact Maps.has_true_of_atKey hat2
      have hkz : x.size ≤ 1073741824 := by rw [← text_size3, hxk]; exact HZ.out k (HL.out k hfk)
      have hB2 : Below w.heap.size w w2 := hB.trans ⟨hg2.os, hg2.tape, hg2.output, hg2.size, fun j hj => hg2.block j (by have := hB.size; omega) (fun e => by injection e with e; omega)⟩
      have hrow2 : w2.ownsRow (r + 1) 9 1 v5 out.length (out.map txtV) := hrow.kept hg2 (.inr fun e => by
        have := (hrow.lt r e).1
        omega)
      have hleft : ∀ z : Txt, ((left (.string z) && !(Lit.string z).sameKey (.string k)) = false) ↔ (left (.string z) = false ∨ z = k) := by
        intro z
        cases h1 : left (.string z) with
        | false => simp
        | true =>
          rw [Bool.true_and]
          constructor
          · intro h2
            right
            exact same_str.1 (by simpa using h2)
          · rintro (h2 | h2)
            · cases h2
            · rw [same_str.2 h2]; rfl
      have HLEFT := Lib.hid hleft
      have HLK := Lib.hid hlk
      have HXK := Lib.hid hxk
      have HFK := Lib.hid hfk
      have hcut := Tryz.strings_CutPrefix x (dir ++ (⟨#[47]⟩ : ByteArray)) w2
      rw [hxk, dir_bytes] at hcut
      have HND := Lib.hid hnd
      by_cases hp : Lib.hasPrefix k (dir.data.toList ++ [47]) = true
      · obtain ⟨s, rfl⟩ := prefix_iff.1 hp
        rw [hp, trim_of] at hcut
        obtain ⟨S, hS⟩ : ∃ S : ByteArray, (⟨s.toArray⟩ : ByteArray) = S := ⟨_, rfl⟩
        rw [hS] at hcut
        have HS := Lib.hid hS
        have HC := Lib.hid hcut
        have hnot : s ∉ out := by
          intro hm
          have := ((HOUT.out s).1 hm).2
          rw [HLK.out] at this
          cases this
        have hnd' : (out ++ [s]).Nodup := by
          rw [List.nodup_append]
          refine ⟨hnd, by simp, ?_⟩
          intro p hpo q hq
          simp at hq
          subst hq
          intro e
          exact hnot (e ▸ hpo)
        have hout' : ∀ z, z ∈ out ++ [s] ↔ (f (dir.data.toList ++ [47] ++ z)).isSome = true ∧ (left (.string (dir.data.toList ++ [47] ++ z)) && !(Lit.string (dir.data.toList ++ [47] ++ z)).sameKey (.string (dir.data.toList ++ [47] ++ s))) = false := by
          intro z
          rw [List.mem_append, HOUT.out z, HLEFT.out, List.mem_singleton]
          constructor
          · rintro (⟨h1, h2⟩ | rfl)
            · exact ⟨h1, .inl h2⟩
            · exact ⟨HFK.out, .inr rfl⟩
          · rintro ⟨h1, h2 | h2⟩
            · exact .inl ⟨h1, h2⟩
            · exact .inr (app_cancel h2)
        have hol2 : (out ++ [s]).length ≤ 1073741824 := Nat.le_trans (out_len (dir := dir.data.toList) hnd' fun z hz => HL.out _ ((hout' z).1 hz).1) hn
        rw [List.length_append] at hol2
        simp only [List.length_singleton] at hol2
        obtain ⟨m, hm⟩ : ∃ m, out.length = m := ⟨_, rfl⟩
        have HM := Lib.hid hm
        rw [hm] at hrow2 hol2
        have HND2 := Lib.hid hnd'
        have HOUT2 := Lib.hid hout'
        have hr2 : r + 1 ≤ w2.heap.size := hrg2.lt
        clear hcut hS hnot hnd' hout' hm hp hnd hlk hfk hxk hleft hrow hrg hkx e1 hat2 hv hg2
        go_wp2_with fail
        refine HC.out.mono ?_
        rintro e w3 ⟨rfl, rfl⟩
        go_wp2_with (at_builtin; refine wpList_append_own_at _ rfl _ _ 78 rfl (r + 1) 9 i0 (.string ⟨#[]⟩) 1 16 Tryz.underlying78 hi0 hz0 hz1 hz2 rfl (by decide) _ _ _ rfl (hrow2.alloc _) ⟨w3.heap.size, 0, none⟩ 1 1 [.string S] rfl rfl ?p1 ?p2 ?p3 ?p4 ?p5 ?_)
        case p1 => exact news_of_blk (l := [.string S]) (Blk.new w3 _ _)
        case p2 => intro u hu; rw [List.mem_singleton.1 hu]; rfl
        case p3 => unfold maxLen; omega
        case p4 => omega
        case p5 => simp; omega
        intro v' w4 hown' hgrow _ _
        have hall : w3.grownBy w4 v5.ownBlock := (World.grownBy_alloc w3 _ _).trans hgrow
        have hB4 : Below w.heap.size w w4 := hB2.trans ⟨hall.os, hall.tape, hall.output, hall.size, fun j hj => hall.block j (by have := hB2.size; omega) (fun e => by have := (hrow2.lt j e.symm).1; omega)⟩
        have hrg4 := hrg2.kept hall (fun e => by have := (hrow2.lt b e.symm).1; omega) (fun e => by have := (hrow2.lt r e.symm).1; omega)
        have hrow4 : w4.ownsRow (r + 1) 9 1 v' (out ++ [s]).length ((out ++ [s]).map txtV) := by
          have e1 : (out ++ [s]).map txtV = out.map txtV ++ [.string S] := by rw [List.map_append]; simp [txtV, HS.out]
          rw [e1, List.length_append, HM.out]
          exact hown'
        clear hown' hgrow hall hrow2 hrg2
        go_wp2_with fail
        go_roundg (gk - 1)
        case measure => omega
        case rel => exact ⟨_, cnt2, out ++ [s], _, rfl, by omega, hrg4, hrow4, HND2.out, HOUT2.out, hB4⟩
      · have hpf : Lib.hasPrefix k (dir.data.toList ++ [47]) = false := by simpa using hp
        rw [hpf] at hcut
        obtain ⟨S, hS⟩ : ∃ S : ByteArray, (⟨(Lib.trimPrefix k (dir.data.toList ++ [47])).toArray⟩ : ByteArray) = S := ⟨_, rfl⟩
        rw [hS] at hcut
        have HC := Lib.hid hcut
        have hout' : ∀ z, z ∈ out ↔ (f (dir.data.toList ++ [47] ++ z)).isSome = true ∧ (left (.string (dir.data.toList ++ [47] ++ z)) && !(Lit.string (dir.data.toList ++ [47] ++ z)).sameKey (.string k)) = false := by
          intro z
          rw [HOUT.out z, HLEFT.out]
          constructor
          · rintro ⟨h1, h2⟩; exact ⟨h1, .inl h2⟩
          · rintro ⟨h1, h2 | h2⟩
            · exact ⟨h1, h2⟩
            · exact absurd (prefix_iff.2 ⟨z, h2.symm⟩) hp
        have HOUT2 := Lib.hid hout'
        clear hcut hS hout' hp hpf hnd hlk hfk hxk hleft hrow hrg hkx e1 hat2 hv hg2
        go_wp2_with fail
        refine HC.out.mono ?_
        rintro e w3 ⟨rfl, rfl⟩
        go_wp2_with fail
        go_roundg (gk - 1)
        case measure => omega
        case rel => exact ⟨_, cnt2, out, _, rfl, by omega, hrg2, hrow2, HND.out, HOUT2.out, hB2⟩
end Go.Proofs.YtfpgbhimgfdddaaGreatDoor

/- The walks of layer 3 (disk): the steps that a closure holds. -/
namespace Go.Proofs.YtfpgbhimgfdddaaGreatDoor
open Go.RowKit Go.Shelf Go.Maps Go.Sort
attribute [local go_sem ↓] Go.wp_at_zero Go.wp_at_succ
attribute [local go_sem] Later.cell Later.frozen

/-- The two maps alone are owned. -/
def two (x y k : Nat) : Nat := if k = x ∨ k = y then 1 else 0
theorem two_l (x y : Nat) : two x y x ≠ 0 := by simp [two]
theorem two_r (x y : Nat) : two x y y ≠ 0 := by simp [two]
/-- A step was taken: what the two maps hold now. -/
def DoOut (md mf : Nat) (f g : Txt → Option Value) (w : World) (e : Ending) (w' : World) : Prop :=
  e = .returned (.tuple #[]) ∧ SM w' md f ∧ SM w' mf g ∧ Own (two md mf) (two md mf) w w'
theorem cell_own {R R' : Nat → Nat} {w w' : World} (h : Own R R' w w') {b i : Nat} {v : Value} (hc : w.cell? ⟨b, i, none⟩ = some v) (hb : R b = 0) : w'.cell? ⟨b, i, none⟩ = some v :=
  (World.cell?_of_block (h.block b (lt_of_cell hc) hb)).trans hc
theorem two_ne {x y k : Nat} (h1 : k ≠ x) (h2 : k ≠ y) : two x y k = 0 := by simp [two, h1, h2]

section
variable {md mf : Nat} {f g : Txt → Option Value}
set_option maxHeartbeats 1000000 in
theorem mkdir1_calls (b : Nat) (S : ByteArray) (w : World) (hd : SM w md f) (hf : SM w mf g) (hne : md ≠ mf) (hb : w.cell? ⟨b, 0, none⟩ = some (.string S)) (hS : S.size ≤ maxLen) (L : List Txt) (hL : ∀ x, (f x).isSome = true → x ∈ L) (hn : L.length < maxLen) :
    Calls Tryz.prog 124 #[.agg #[.map (some md), .map (some mf)], .pointer (some ⟨b, 0, none⟩)] w (DoOut md mf (upd f S.data.toList (some (.int .i64 1))) g w) := by
  have hbl := lt_of_cell hb
  have HL := Lib.hid hL
  clear hL
  go_enter Tryz.func124, Tryz.ntmps124
  go_upto_region 1 with fail
  obtain ⟨w1, hw1⟩ : ∃ x, w.alloc (.cells #[.map (some md), .map (some mf)] 122) = x := ⟨_, rfl⟩
  have hb1 : Below w.heap.size w w1 := by rw [← hw1]; exact (Below.refl _ _).alloc (Nat.le_refl _) _
  have hq : Blk w1 w.heap.size 122 #[.map (some md), .map (some mf)] := by rw [← hw1]; exact Blk.new _ _ _
  rw [hw1]
  obtain ⟨q, hqq⟩ : ∃ q, w.heap.size = q := ⟨_, rfl⟩
  rw [hqq] at hq ⊢
  have q0 : _ = some (Value.map (some md)) := hq.cell 0
  have c1 := later hb1 hb
  have hd1 := hd.below hb1 hd.lt
  have hf1 := hf.below hb1 hf.lt
  clear hw1 hqq hb hd hf
  go_wp2_with (at_mapUpdate; refine wpList_put _ rfl _ _ _ rfl Tryz.underlying9 Tryz.underlying119 rfl hd1 rfl hS _ rfl L HL.out hn ?_)
  intro w2 hd2 hg2 _
  have hf2 := hf1.grown hg2 (by simpa using Ne.symm hne)
  have hO : Own (two md mf) (two md mf) w w2 := (Own.of_below hb1).trans (Own.of_grown hg2 (two_l _ _))
  go_wp2_with fail
  go_end0
  exact ⟨rfl, hd2, hf2, hO⟩

set_option maxHeartbeats 1000000 in
theorem create1_calls (b c : Nat) (S : ByteArray) (P : Option Addr) (w : World) (hd : SM w md f) (hf : SM w mf g) (hne : md ≠ mf) (hb : w.cell? ⟨b, 0, none⟩ = some (.string S)) (hc : w.cell? ⟨c, 0, none⟩ = some (.pointer P)) (hS : S.size ≤ maxLen) (L : List Txt) (hL : ∀ x, (g x).isSome = true → x ∈ L) (hn : L.length < maxLen) :
    Calls Tryz.prog 66 #[.agg #[.map (some md), .map (some mf)], .pointer (some ⟨c, 0, none⟩), .pointer (some ⟨b, 0, none⟩)] w (DoOut md mf f (upd g S.data.toList (some (.pointer P))) w) := by
  have hbl := lt_of_cell hb
  have hcl := lt_of_cell hc
  have HL := Lib.hid hL
  clear hL
  go_enter Tryz.func66, Tryz.ntmps66
  go_upto_region 1 with fail
  obtain ⟨w1, hw1⟩ : ∃ x, w.alloc (.cells #[.map (some md), .map (some mf)] 122) = x := ⟨_, rfl⟩
  have hb1 : Below w.heap.size w w1 := by rw [← hw1]; exact (Below.refl _ _).alloc (Nat.le_refl _) _
  have hq : Blk w1 w.heap.size 122 #[.map (some md), .map (some mf)] := by rw [← hw1]; exact Blk.new _ _ _
  rw [hw1]
  obtain ⟨q, hqq⟩ : ∃ q, w.heap.size = q := ⟨_, rfl⟩
  rw [hqq] at hq ⊢
  have q1 : _ = some (Value.map (some mf)) := hq.cell 1
  have c1 := later hb1 hb
  have c2 := later hb1 hc
  have hd1 := hd.below hb1 hd.lt
  have hf1 := hf.below hb1 hf.lt
  clear hw1 hqq hb hd hf hc
  go_wp2_with (at_mapUpdate; refine wpList_put _ rfl _ _ _ rfl Tryz.underlying9 Tryz.underlying120 rfl hf1 rfl hS _ rfl L HL.out hn ?_)
  intro w2 hf2 hg2 _
  have hd2 := hd1.grown hg2 (by simpa using hne)
  have hO : Own (two md mf) (two md mf) w w2 := (Own.of_below hb1).trans (Own.of_grown hg2 (two_r _ _))
  go_wp2_with fail
  go_end0
  exact ⟨rfl, hd2, hf2, hO⟩

theorem cat_bytes (a : ByteArray) (s : Txt) : (a ++ (⟨#[47]⟩ : ByteArray) ++ (⟨s.toArray⟩ : ByteArray)).data.toList = a.data.toList ++ [47] ++ s := by simp
theorem cat_size (a : ByteArray) (s : Txt) : (a ++ (⟨#[47]⟩ : ByteArray) ++ (⟨s.toArray⟩ : ByteArray)).size = a.size + 1 + s.length := by
  rw [← text_size3, cat_bytes]
  simp
  omega
theorem rmF_take {f : Txt → Option Value} {a : Txt} {bs : List Txt} {i : Nat} (h : i < bs.length) : rmF f a (bs.take (i + 1)) = upd (rmF f a (bs.take i)) (a ++ [47] ++ bs[i]!) none := by
  unfold rmF
  rw [List.take_succ_eq_append_getElem h, getElem!_pos bs i h, List.foldl_append]
  rfl

set_option maxRecDepth 100000 in
set_option maxHeartbeats 2000000 in
theorem remove1_calls (b : Nat) (S : ByteArray) (w : World) (hd : SM w md f) (hf : SM w mf g) (hne : md ≠ mf) (hb : w.cell? ⟨b, 0, none⟩ = some (.string S)) (hbd : b ≠ md) (hbf : b ≠ mf) (hS : S.size ≤ 1073741824) (L : List Txt) (hL : ∀ x, (g x).isSome = true → x ∈ L) (hn : L.length ≤ 1073741824) (hz : ∀ x ∈ L, x.length ≤ 1073741824) :
    Calls Tryz.prog 115 #[.agg #[.map (some md), .map (some mf)], .pointer (some ⟨b, 0, none⟩)] w fun e w' => ∃ bs : List Txt, bs.Nodup ∧ (∀ x, x ∈ bs ↔ (g (S.data.toList ++ [47] ++ x)).isSome = true) ∧ DoOut md mf (upd f S.data.toList none) (upd (rmF g S.data.toList bs) S.data.toList none) w e w' := by
  have hbl := lt_of_cell hb
  have HL := Lib.hid hL
  have HZ := Lib.hid hz
  clear hL hz
  go_enter Tryz.func115, Tryz.ntmps115
  go_upto_region 1 with fail
  obtain ⟨w1, hw1⟩ : ∃ x, w.alloc (.cells #[.map (some md), .map (some mf)] 122) = x := ⟨_, rfl⟩
  have hb1 : Below w.heap.size w w1 := by rw [← hw1]; exact (Below.refl _ _).alloc (Nat.le_refl _) _
  have hq : Blk w1 w.heap.size 122 #[.map (some md), .map (some mf)] := by rw [← hw1]; exact Blk.new _ _ _
  rw [hw1]
  obtain ⟨q, hqq⟩ : ∃ q, w.heap.size = q := ⟨_, rfl⟩
  have hqd : q ≠ md := by have := hd.lt; omega
  have hqf : q ≠ mf := by have := hf.lt; omega
  rw [hqq] at hq ⊢
  have q0 : _ = some (Value.map (some md)) := hq.cell 0
  have q1 : _ = some (Value.map (some mf)) := hq.cell 1
  have c1 := later hb1 hb
  have hd1 := hd.below hb1 hd.lt
  have hf1 := hf.below hb1 hf.lt
  clear hw1 hb hd hf
  go_wp2_with fail
  refine (within_calls (some md) (some mf) mf rfl g S w1 hf1 L HL.out hn hS HZ.out).mono ?_
  rintro e w2 ⟨A, c, bs, rfl, hs, hc, hasc, hbs, hb2⟩
  have hnd : bs.Nodup := List.Pairwise.imp (fun {a b} h => by intro e; subst e; exact List.lt_irrefl _ h) hasc
  have hbl2 : ∀ x ∈ bs, x.length ≤ 1073741824 := by
    intro x hx
    have h1 := HZ.out _ (HL.out _ ((hbs x).1 hx))
    simp at h1
    omega
  have HBS := Lib.hid hbs
  have HND := Lib.hid hnd
  have HBL := Lib.hid hbl2
  have hB2 := then_ hb1 hb2
  have hd2 := hd1.below hb2 hd1.lt
  have hf2 := hf1.below hb2 hf1.lt
  have hq2 := hq.below hb2 hq.lt
  have c2 := later hb2 c1
  obtain ⟨m, hm⟩ : ∃ m, bs.length = m := ⟨_, rfl⟩
  have HM := Lib.hid hm
  rw [hm] at hs hc ⊢
  have hml : m ≤ 1073741824 := by rw [← hm]; exact Nat.le_trans (out_len hnd fun x hx => HL.out _ ((hbs x).1 hx)) hn
  clear hbs hnd hbl2 hb1 hb2 hd1 hf1 hq q0 q1 c1 hm hqq hasc
  go_upto_block 0 with fail
  go_cut [] (fun wz => SM wz md f ∧ SM wz mf (rmF g S.data.toList bs) ∧ Own (two md mf) (two md mf) w2 wz)
  case first =>
    go_wp2_with fail
    go_loopg [9] m (fun k s9 wr => ∃ i : Nat, i + k = m ∧ s9 = .int .i64 (i : Int) ∧ SM wr md f ∧ SM wr mf (rmF g S.data.toList (bs.take i)) ∧ Own (two md mf) (two md mf) w2 wr)
    case atStart => exact ⟨0, by omega, rfl, hd2, by simpa [rmF] using hf2, Own.refl _ _⟩
    case round =>
      obtain ⟨i, hig, rfl, hdr, hfr, hO⟩ := hrel
      have HIG := Lib.hid hig
      by_cases hi : i < m
      · have el : decide ((i : Int) < (m : Int)) = true := by simp; omega
        have el' : decide (i < m) = true := by simp; omega
        clear hig
        obtain ⟨bb, oo, rfl, hbb, hcell⟩ := hs.at_ hi
        have hrt := rmF_take (f := g) (a := S.data.toList) (bs := bs) (i := i) (by have := HM.out; omega)
        have hsz := HBL.out bs[i]! (by rw [getElem!_pos bs i (by have := HM.out; omega)]; exact List.getElem_mem _)
        obtain ⟨s, hs'⟩ : ∃ s, bs[i]! = s := ⟨_, rfl⟩
        rw [hs'] at hcell hrt hsz
        unfold txtV at hcell
        have hks := cat_size S s
        have hkz : (S ++ (⟨#[47]⟩ : ByteArray) ++ (⟨s.toArray⟩ : ByteArray)).size ≤ maxLen := by rw [hks]; unfold maxLen; omega
        obtain ⟨X, hX⟩ : ∃ X : ByteArray, (⟨s.toArray⟩ : ByteArray) = X := ⟨_, rfl⟩
        have hkb : S.data.toList ++ 47 :: X.data.toList = S.data.toList ++ [47] ++ s := by rw [← hX]; simp
        rw [hX] at hcell hkz
        have hXz : X.size ≤ 1073741824 := by rw [← hX, ← text_size3]; exact hsz
        have hbbne : two md mf bb = 0 := by
          apply two_ne
          · rintro rfl
            obtain ⟨D, ⟨es, clock, h1, _⟩, _⟩ := hd2
            simp [World.cell?, h1] at hcell
          · rintro rfl
            obtain ⟨D, ⟨es, clock, h1, _⟩, _⟩ := hf2
            simp [World.cell?, h1] at hcell
        have e1 := cell_own hO hcell hbbne
        have e2 := cell_own hO c2 (two_ne hbd hbf)
        have e3 : _ = some (Value.map (some mf)) := cell_own hO (hq2.cell 1) (two_ne hqd hqf)
        have HRT := Lib.hid hrt
        have HKB := Lib.hid hkb
        clear hrt hkb hs' hX hcell hks
        go_wp2_with (at_delete; refine wpList_del _ rfl _ _ rfl Tryz.underlying9 Tryz.underlying120 rfl hfr rfl hkz ?_)
        intro w3 hf3 hg3 _
        rw [HKB.out] at hf3
        have hd3 := hdr.grown hg3 (by simpa using hne)
        have hO3 := hO.trans (Own.of_grown hg3 (two_r md mf))
        go_wp2_with fail
        go_roundg (gk - 1)
        case measure => have := HIG.out; omega
        case rel => exact ⟨i + 1, by have := HIG.out; omega, by go_num, hd3, by rw [HRT.out]; exact hf3, hO3⟩
      · have el : decide ((i : Int) < (m : Int)) = false := by simp; omega
        have el' : decide (i < m) = false := by simp; omega
        have htk : bs.take i = bs := List.take_of_length_le (by have := HM.out; omega)
        rw [htk] at hfr
        clear htk hig
        go_wp2_with fail
        go_meet
        exact ⟨hdr, hfr, hO⟩
  case rest =>
    obtain ⟨hd3, hf3, hO3⟩ := hcut
    obtain ⟨w3, rfl⟩ : ∃ x, x = wc := ⟨_, rfl⟩
    have e1 := cell_own hO3 c2 (two_ne hbd hbf)
    have e2 : _ = some (Value.map (some mf)) := cell_own hO3 (hq2.cell 1) (two_ne hqd hqf)
    have hSm : S.size ≤ maxLen := by unfold maxLen; omega
    clear c2
    go_wp2_with (at_delete; refine wpList_del _ rfl _ _ rfl Tryz.underlying9 Tryz.underlying120 rfl hf3 rfl hSm ?_)
    intro w4 hf4 hg4 _
    have hd4 := hd3.grown hg4 (by simpa using hne)
    have hO4 := hO3.trans (Own.of_grown hg4 (two_r md mf))
    have e3 := cell_own (Own.of_grown (R := two md mf) hg4 (two_r md mf)) e1 (two_ne hbd hbf)
    have e4 : _ = some (Value.map (some md)) := cell_own hO4 (hq2.cell 0) (two_ne hqd hqf)
    clear e1 e2
    go_wp2_with (at_delete; refine wpList_del _ rfl _ _ rfl Tryz.underlying9 Tryz.underlying119 rfl hd4 rfl hSm ?_)
    intro w5 hd5 hg5 _
    have hf5 := hf4.grown hg5 (by simpa using Ne.symm hne)
    have hO5 := hO4.trans (Own.of_grown hg5 (two_l md mf))
    go_wp2_with fail
    go_end0
    exact ⟨bs, HND.out, HBS.out, rfl, hd5, hf5, (Own.of_below hB2).trans hO5⟩
end
end Go.Proofs.YtfpgbhimgfdddaaGreatDoor
