/- The plain law of layer 6 (regex): the machine always ends, and more fuel does not change what it says. -/
import Derived.Test.YtlmnincllndpnaaRexPlain
namespace Go.Proofs.Ytlmnincllndpnaa

theorem Res.then_ok (t : Tr) (l : List UInt8) (f : Tr → List UInt8 → Res) : Res.then_ (some (.ok (t, l))) f = f t l := rfl
theorem Res.then_error (e : Nat) (f : Tr → List UInt8 → Res) : Res.then_ (some (.error e)) f = some (.error e) := rfl

theorem itemsF_succ : ∀ {n : Nat} {l : List UInt8} {s k : Nat} {f : Bool} {r}, itemsF n l s k f = some r → itemsF (n + 1) l s k f = some r
  | 0, _, _, _, _, _, h => by simp [itemsF] at h
  | n + 1, l, s, k, f, r, h => by
    rw [itemsF] at h ⊢
    split at h
    · rename_i hc; rw [if_pos hc]; exact h
    · rename_i hc
      rw [if_neg hc]
      split at h
      · exact h
      · exact itemsF_succ h
theorem classF_succ {n : Nat} {l : List UInt8} {r} (h : classF n l = some r) : classF (n + 1) l = some r := by
  unfold classF at h ⊢
  dsimp only at h ⊢
  split at h
  · cases h
  · rename_i hi; rw [itemsF_succ hi]; exact h
  · rename_i hi; rw [itemsF_succ hi]; exact h

theorem run_succ : ∀ {n : Nat} {k : Tk} {l : List UInt8} {d : Nat} {r}, run n k l d = some r → run (n + 1) k l d = some r
  | 0, _, _, _, _, h => by simp [run] at h
  | n + 1, .branches, l, d, r, h => by
    rw [run] at h ⊢
    rcases Res.then_some h with ⟨t, l', h1, h2⟩ | ⟨e, h1, rfl⟩
    · rw [run_succ h1, Res.then_ok]; exact run_succ h2
    · rw [run_succ h1, Res.then_error]
  | n + 1, .strokes t, l, d, r, h => by
    rw [run] at h ⊢
    split at h
    · rename_i hc
      rw [if_pos hc]
      rcases Res.then_some h with ⟨t, l', h1, h2⟩ | ⟨e, h1, rfl⟩
      · rw [run_succ h1, Res.then_ok]; exact run_succ h2
      · rw [run_succ h1, Res.then_error]
    · rename_i hc; rw [if_neg hc]; exact h
  | n + 1, .pieces t, [], d, r, h => by rw [run] at h ⊢; exact h
  | n + 1, .pieces t, b :: l, d, r, h => by
    rw [run] at h ⊢
    split at h
    · rename_i hc; rw [if_pos hc]; exact h
    · rename_i hc
      rw [if_neg hc]
      split at h
      · rename_i hc2; rw [if_pos hc2]; exact h
      · rename_i hc2
        rw [if_neg hc2]
        rcases Res.then_some h with ⟨t, l', h1, h2⟩ | ⟨e, h1, rfl⟩
        · rw [run_succ h1, Res.then_ok]; exact run_succ h2
        · rw [run_succ h1, Res.then_error]
  | n + 1, .piece, l, d, r, h => by
    rw [run] at h ⊢
    rcases Res.then_some h with ⟨t, l', h1, h2⟩ | ⟨e, h1, rfl⟩
    · rw [run_succ h1, Res.then_ok]; exact run_succ h2
    · rw [run_succ h1, Res.then_error]
  | n + 1, .signs t, [], d, r, h => by rw [run] at h ⊢; exact h
  | n + 1, .signs t, b :: l, d, r, h => by
    rw [run] at h ⊢
    split at h
    · exact run_succ h
    · exact h
  | n + 1, .atom, [], d, r, h => by simp only [run] at h ⊢; exact h
  | n + 1, .atom, b :: l, d, r, h => by
    rw [run_atom] at h ⊢
    split at h
    · rename_i hc; rw [if_pos hc]; exact h
    · rename_i hc
      rw [if_neg hc]
      split at h
      · rename_i hc2
        rw [if_pos hc2]
        split at h
        · rename_i hc3
          rw [if_pos hc3]
          rcases Res.then_some h with ⟨t, l', h1, h2⟩ | ⟨e, h1, rfl⟩
          · rw [run_succ h1, Res.then_ok]; exact h2
          · rw [run_succ h1, Res.then_error]
        · rename_i hc3; rw [if_neg hc3]; exact h
      · rename_i hc2
        rw [if_neg hc2]
        split at h
        · rename_i hc3; rw [if_pos hc3]; exact classF_succ h
        · rename_i hc3; rw [if_neg hc3]; exact h

theorem run_mono {n m : Nat} {k : Tk} {l : List UInt8} {d : Nat} {r} (h : run n k l d = some r) (hm : n ≤ m) : run m k l d = some r := by
  induction m with
  | zero => obtain rfl : n = 0 := by omega
            exact h
  | succ m ih =>
    by_cases e : n = m + 1
    · subst e; exact h
    · exact run_succ (ih (by omega))
theorem itemsF_mono {n m : Nat} {l : List UInt8} {s k : Nat} {f : Bool} {r} (h : itemsF n l s k f = some r) (hm : n ≤ m) : itemsF m l s k f = some r := by
  induction m with
  | zero => obtain rfl : n = 0 := by omega
            exact h
  | succ m ih =>
    by_cases e : n = m + 1
    · subst e; exact h
    · exact itemsF_succ (ih (by omega))
/-- What the machine says does not hang on the fuel. -/
theorem run_one {n m : Nat} {k : Tk} {l : List UInt8} {d : Nat} {r r'} (h : run n k l d = some r) (h' : run m k l d = some r') : r = r' := by
  have h1 := run_mono h (Nat.le_max_left n m)
  have h2 := run_mono h' (Nat.le_max_right n m)
  rw [h1] at h2
  exact Option.some.inj h2

/-! ### how much is read -/
theorem letterOf_len {l l' : List UInt8} {b : UInt8} (h : letterOf l = .ok (b, l')) : l'.length < l.length := by
  match l with
  | [] => simp [letterOf] at h
  | c :: l =>
    simp only [letterOf] at h
    split at h
    · match l with
      | [] => simp at h
      | x :: l => simp at h; obtain ⟨_, rfl⟩ := h; simp; omega
    · injection h with h; injection h with _ h; subst h; simp
theorem itemOf_len {l l' : List UInt8} {a b : UInt8} (h : itemOf l = .ok (a, b, l')) : l'.length < l.length := by
  unfold itemOf at h
  split at h
  · cases h
  · rename_i a1 l1 h1
    have g1 := letterOf_len h1
    split at h
    · split at h
      · cases h
      · rename_i b2 l2 h2
        have g2 := letterOf_len h2
        injection h with h; injection h with _ h; injection h with _ h; subst h
        simp at g2
        omega
    · injection h with h; injection h with _ h; injection h with _ h; subst h
      exact g1
theorem itemsF_len : ∀ {n : Nat} {l : List UInt8} {s k : Nat} {f : Bool} {x : Items}, itemsF n l s k f = some (.ok x) → x.rest.length < l.length
  | 0, _, _, _, _, _, h => by simp [itemsF] at h
  | n + 1, l, s, k, f, x, h => by
    rw [itemsF] at h
    split at h
    · rename_i hc
      injection h with h; injection h with h; subst h
      cases l with
      | nil => simp at hc
      | cons c l => simp
    · split at h
      · cases h
      · rename_i hi
        have g1 := itemOf_len hi
        have g2 := itemsF_len h
        omega
theorem classF_len {n : Nat} {l l' : List UInt8} {t : Tr} (h : classF n l = some (.ok (t, l'))) : l'.length < l.length := by
  unfold classF at h
  dsimp only at h
  split at h
  · cases h
  · cases h
  · rename_i hi
    have g1 := itemsF_len hi
    have g2 : (if (decide (l.head? = some 94)) = true then l.tail else l).length ≤ l.length := by split <;> simp
    split at h
    · injection h with h; injection h with h; injection h with _ h; subst h; omega
    · cases h

/-- At least so much is read. -/
def Tk.least : Tk → Nat
  | .piece => 1
  | .atom => 1
  | _ => 0
theorem run_len : ∀ {n : Nat} {k : Tk} {l l' : List UInt8} {d : Nat} {t : Tr}, run n k l d = some (.ok (t, l')) → l'.length + k.least ≤ l.length
  | 0, _, _, _, _, _, h => by simp [run] at h
  | n + 1, .branches, l, l', d, t, h => by
    rw [run] at h
    rcases Res.then_some h with ⟨t1, l1, h1, h2⟩ | ⟨e, h1, h2⟩
    · have := run_len h1; have := run_len h2; simp only [Tk.least] at *; omega
    · cases h2
  | n + 1, .strokes t, l, l', d, _, h => by
    rw [run] at h
    split at h
    · rcases Res.then_some h with ⟨t1, l1, h1, h2⟩ | ⟨e, h1, h2⟩
      · have := run_len h1; have := run_len h2; simp only [Tk.least, List.length_tail] at *; omega
      · cases h2
    · injection h with h; injection h with h; injection h with _ h; subst h; simp [Tk.least]
  | n + 1, .pieces t, [], l', d, _, h => by
    rw [run] at h; injection h with h; injection h with h; injection h with _ h; subst h; simp [Tk.least]
  | n + 1, .pieces t, b :: l, l', d, _, h => by
    rw [run] at h
    split at h
    · cases h
    · split at h
      · injection h with h; injection h with h; injection h with _ h; subst h; simp [Tk.least]
      · rcases Res.then_some h with ⟨t1, l1, h1, h2⟩ | ⟨e, h1, h2⟩
        · have := run_len h1; have := run_len h2; simp only [Tk.least] at *; omega
        · cases h2
  | n + 1, .piece, l, l', d, _, h => by
    rw [run] at h
    rcases Res.then_some h with ⟨t1, l1, h1, h2⟩ | ⟨e, h1, h2⟩
    · have := run_len h1; have := run_len h2; simp only [Tk.least] at *; omega
    · cases h2
  | n + 1, .signs t, [], l', d, _, h => by
    rw [run] at h; injection h with h; injection h with h; injection h with _ h; subst h; simp [Tk.least]
  | n + 1, .signs t, b :: l, l', d, _, h => by
    rw [run] at h
    split at h
    · have := run_len h; simp only [Tk.least, List.length_cons] at *; omega
    · injection h with h; injection h with h; injection h with _ h; subst h; simp [Tk.least]
  | n + 1, .atom, [], l', d, _, h => by simp [run] at h
  | n + 1, .atom, b :: l, l', d, _, h => by
    rw [run_atom] at h
    split at h
    · cases h
    · split at h
      · split at h
        · rcases Res.then_some h with ⟨t1, l1, h1, h2⟩ | ⟨e, h1, h2⟩
          · have := run_len h1
            split at h2
            · cases h2
            · injection h2 with h2; injection h2 with h2; injection h2 with _ h2; subst h2
              simp only [Tk.least, List.length_cons] at *; omega
          · cases h2
        · cases h
      · split at h
        · have := classF_len h; simp only [Tk.least, List.length_cons] at *; omega
        · split at h
          · injection h with h; injection h with h; injection h with _ h; subst h; simp [Tk.least]
          · split at h
            · split at h
              · cases h
              · injection h with h; injection h with h; injection h with _ h; subst h; simp [Tk.least]
            · injection h with h; injection h with h; injection h with _ h; subst h; simp [Tk.least]

/-! ### it always ends -/
def Ends (k : Tk) (l : List UInt8) (d : Nat) : Prop := ∃ n r, run n k l d = some r
theorem itemsF_ends : ∀ (N : Nat) (l : List UInt8) (s k : Nat) (f : Bool), l.length ≤ N → ∃ n r, itemsF n l s k f = some r
  | N, l, s, k, f, hN => by
    by_cases hc : l.head? = some 93
    · exact ⟨1, _, by rw [itemsF, if_pos hc]⟩
    · cases hi : itemOf l with
      | error e => exact ⟨1, _, by rw [itemsF, if_neg hc, hi]⟩
      | ok abl =>
        obtain ⟨a, b, l'⟩ := abl
        have g := itemOf_len hi
        match N, hN with
        | 0, hN => omega
        | N + 1, hN =>
          obtain ⟨n, r, h⟩ := itemsF_ends N l' (putR s a.toNat b.toNat) (k + 1) (f || decide (b < a)) (by omega)
          exact ⟨n + 1, r, by rw [itemsF, if_neg hc, hi]; exact h⟩
theorem classF_ends (l : List UInt8) : ∃ n r, classF n l = some r := by
  obtain ⟨n, r, h⟩ := itemsF_ends _ (if (decide (l.head? = some 94)) = true then l.tail else l) 0 0 false (Nat.le_refl _)
  refine ⟨n, ?_⟩
  unfold classF
  dsimp only
  rw [h]
  cases r with
  | error e => exact ⟨_, rfl⟩
  | ok x =>
    dsimp only
    split
    · exact ⟨_, rfl⟩
    · exact ⟨_, rfl⟩
theorem ends_then {k : Tk} {l : List UInt8} {d : Nat} (h : Ends k l d) (f : Tr → List UInt8 → Tk × List UInt8) (g : ∀ t l', (∃ n, run n k l d = some (.ok (t, l'))) → Ends (f t l').1 (f t l').2 d) :
    ∃ n r, (run n k l d).then_ (fun t l' => run n (f t l').1 (f t l').2 d) = some r := by
  obtain ⟨n, r, h⟩ := h
  cases r with
  | error e => exact ⟨n, _, by rw [h]; rfl⟩
  | ok tl =>
    obtain ⟨t, l'⟩ := tl
    obtain ⟨m, r, h'⟩ := g t l' ⟨n, h⟩
    exact ⟨n + m, r, by rw [run_mono h (by omega), Res.then_ok]; exact run_mono h' (by omega)⟩
theorem signs_ends : ∀ (l : List UInt8) (t : Tr) (d : Nat), Ends (.signs t) l d
  | [], t, d => ⟨1, _, by rw [run]⟩
  | b :: l, t, d => by
    cases hs : signOf b t with
    | none => exact ⟨1, _, by rw [run, hs]⟩
    | some u =>
      obtain ⟨n, r, h⟩ := signs_ends l u d
      exact ⟨n + 1, r, by rw [run, hs]; exact h⟩
theorem atom_ends (l : List UInt8) (d : Nat) (ih : ∀ l' : List UInt8, l'.length < l.length → Ends .branches l' (d + 1)) : Ends .atom l d := by
  match l with
  | [] => exact ⟨1, .error 0, by simp only [run]⟩
  | b :: l =>
    unfold Ends
    by_cases h1 : b = 42 ∨ b = 43 ∨ b = 63
    · exact ⟨1, _, by rw [run_atom, if_pos h1]⟩
    by_cases h2 : b = 40
    · by_cases h3 : d < 16
      · obtain ⟨n, r, h⟩ := ih l (by simp)
        cases r with
        | error e => exact ⟨n + 1, _, by rw [run_atom, if_neg h1, if_pos h2, if_pos h3, h]; rfl⟩
        | ok tl =>
          obtain ⟨t, l'⟩ := tl
          cases l' with
          | nil => exact ⟨n + 1, _, by rw [run_atom, if_neg h1, if_pos h2, if_pos h3, h]; rfl⟩
          | cons c l' => exact ⟨n + 1, _, by rw [run_atom, if_neg h1, if_pos h2, if_pos h3, h]; rfl⟩
      · exact ⟨1, _, by rw [run_atom, if_neg h1, if_pos h2, if_neg h3]⟩
    by_cases h3 : b = 91
    · obtain ⟨n, r, h⟩ := classF_ends l
      exact ⟨n + 1, r, by rw [run_atom, if_neg h1, if_neg h2, if_pos h3]; exact h⟩
    by_cases h4 : b = 46
    · exact ⟨1, _, by rw [run_atom, if_neg h1, if_neg h2, if_neg h3, if_pos h4]⟩
    by_cases h5 : b = 92
    · cases l with
      | nil => exact ⟨1, _, by rw [run_atom, if_neg h1, if_neg h2, if_neg h3, if_neg h4, if_pos h5]⟩
      | cons c l => exact ⟨1, _, by rw [run_atom, if_neg h1, if_neg h2, if_neg h3, if_neg h4, if_pos h5]⟩
    exact ⟨1, _, by rw [run_atom, if_neg h1, if_neg h2, if_neg h3, if_neg h4, if_neg h5]⟩
theorem ends_all : ∀ (N : Nat) (l : List UInt8), l.length ≤ N → (∀ d, Ends .piece l d) ∧ (∀ t d, Ends (.pieces t) l d) ∧ (∀ t d, Ends (.strokes t) l d) ∧ (∀ d, Ends .branches l d)
  | N, l, hN => by
    have ih : ∀ l' : List UInt8, l'.length < l.length → (∀ d, Ends .piece l' d) ∧ (∀ t d, Ends (.pieces t) l' d) ∧ (∀ t d, Ends (.strokes t) l' d) ∧ (∀ d, Ends .branches l' d) := by
      match N, hN with
      | 0, hN => intro l' h; omega
      | N + 1, hN => intro l' h; exact ends_all N l' (by omega)
    have hpiece : ∀ d, Ends .piece l d := by
      intro d
      obtain ⟨n, r, h⟩ := ends_then (atom_ends l d (fun l' h => (ih l' h).2.2.2 _)) (fun t l' => (.signs t, l')) (fun t l' _ => signs_ends l' t d)
      exact ⟨n + 1, r, by rw [run]; exact h⟩
    have hpieces : ∀ t d, Ends (.pieces t) l d := by
      intro t d
      cases hl : l with
      | nil => exact ⟨1, _, by rw [run]⟩
      | cons b l2 =>
        unfold Ends
        by_cases h1 : b = 41 ∧ d = 0
        · exact ⟨1, _, by rw [run, if_pos h1]⟩
        by_cases h2 : b = 124 ∨ b = 41
        · exact ⟨1, _, by rw [run, if_neg h1, if_pos h2]⟩
        obtain ⟨n, r, h⟩ := ends_then (hpiece d) (fun u l' => (.pieces (some (catOf t u)), l')) (fun u l' ⟨n, hn⟩ => (ih l' (by have := run_len hn; simp only [Tk.least] at this; omega)).2.1 _ _)
        rw [hl] at h
        exact ⟨n + 1, r, by rw [run, if_neg h1, if_neg h2]; exact h⟩
    have hstrokes : ∀ t d, Ends (.strokes t) l d := by
      intro t d
      by_cases h1 : l.head? = some 124
      · have hlt : l.tail.length < l.length := by cases l with | nil => simp at h1 | cons c l => simp
        obtain ⟨n, r, h⟩ := ends_then ((ih l.tail hlt).2.1 none d) (fun u l' => (.strokes (.alt t u), l')) (fun u l' ⟨n, hn⟩ => (ih l' (by have := run_len hn; simp only [Tk.least] at this; omega)).2.2.1 _ _)
        exact ⟨n + 1, r, by rw [run, if_pos h1]; exact h⟩
      · exact ⟨1, _, by rw [run, if_neg h1]⟩
    refine ⟨hpiece, hpieces, hstrokes, fun d => ?_⟩
    obtain ⟨n, r, h⟩ := ends_then (hpieces none d) (fun t l' => (.strokes t, l')) (fun t l' ⟨n, hn⟩ => by
      have hlen := run_len hn
      simp only [Tk.least] at hlen
      by_cases e : l'.length < l.length
      · exact (ih l' e).2.2.1 t d
      · by_cases h1 : l'.head? = some 124
        · have hlt : l'.tail.length < l.length := by cases l' with | nil => simp at h1 | cons c l' => simp at *; omega
          obtain ⟨n, r, h⟩ := ends_then ((ih l'.tail hlt).2.1 none d) (fun u l' => (.strokes (.alt t u), l')) (fun u l' ⟨n, hn⟩ => (ih l' (by have := run_len hn; simp only [Tk.least] at this; omega)).2.2.1 _ _)
          exact ⟨n + 1, r, by dsimp only; rw [run, if_pos h1]; exact h⟩
        · exact ⟨1, _, by dsimp only; rw [run, if_neg h1]⟩)
    exact ⟨n + 1, r, by rw [run]; exact h⟩
/-- Every pattern is read, or has an error. -/
theorem run_ends (l : List UInt8) (d : Nat) : ∃ n r, run n .branches l d = some r := (ends_all _ l (Nat.le_refl _)).2.2.2 d
end Go.Proofs.Ytlmnincllndpnaa
