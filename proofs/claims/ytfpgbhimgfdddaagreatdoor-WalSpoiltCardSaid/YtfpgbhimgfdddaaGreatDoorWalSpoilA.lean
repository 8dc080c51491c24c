/- The plain law of layer 16 (wal): a segment of one payload of which a byte is turned. No program in sight. -/
import Derived.Test.YtfpgbhimgfdddaaGreatDoorWax02
set_option linter.unusedVariables false
set_option linter.unusedSimpArgs false
namespace Go.Proofs.YtfpgbhimgfdddaaGreatDoor
/-- Each segment holds one payload. -/
def OneW (m : WM) : Prop := ∀ s ∈ m.segs, ∃ p, s.2 = [p]
theorem framesT_pos {ps : List Txt} (h : ps ≠ []) : 0 < (framesT ps).length := by
  cases ps with
  | nil => exact absurd rfl h
  | cons p ps =>
    have e : framesT (p :: ps) = frameT p ++ framesT ps := by simp [framesT]
    rw [e, List.length_append, frameT_len]
    omega
theorem framesT_one (p : Txt) : framesT [p] = frameT p := by simp [framesT]
theorem one_app {m : WM} (h : m = ⟨[], 1, []⟩ ∨ OneW m) (p : Txt) : OneW (m.app 1 p) := by
  rcases h with rfl | h
  · intro s hs
    have e : (⟨[], 1, []⟩ : WM).app 1 p = ⟨[], 1, [p]⟩ := by
      unfold WM.app
      rw [if_neg]
      · rfl
      · show ¬ (decide (0 < (framesT []).length) && _) = true
        simp [framesT]
    rw [e] at hs
    obtain rfl := List.mem_singleton.1 hs
    exact ⟨p, rfl⟩
  · have hl : m.ps ≠ [] := by
      obtain ⟨q, hq⟩ := h (m.n, m.ps) (List.mem_append_right _ (List.mem_singleton.2 rfl))
      dsimp only at hq
      rw [hq]
      simp
    have hu : 0 < m.used := framesT_pos hl
    have hf : m.full 1 (p.length + 9) = true := by
      unfold WM.full
      simp only [Bool.and_eq_true, decide_eq_true_eq]
      omega
    intro s hs
    unfold WM.app at hs
    rw [if_pos hf] at hs
    rcases List.mem_append.1 hs with hs | hs
    · exact h s hs
    · obtain rfl := List.mem_singleton.1 hs
      exact ⟨p, rfl⟩
theorem one_kept {l : List (Nat × List Txt)} (h : ∀ s ∈ l, ∃ p, s.2 = [p]) : ∀ (k : Nat) (e : Txt × Nat), (l.flatMap fun s => s.2.map fun p => (p, s.1))[k]? = some e → l[k]? = some (e.2, [e.1]) := by
  induction l with
  | nil => intro k e he; simp at he
  | cons s l ih =>
    obtain ⟨p, hp⟩ := h s (List.mem_cons_self ..)
    intro k e he
    rw [List.flatMap_cons, hp] at he
    cases k with
    | zero =>
      have : (p, s.1) = e := by simpa using he
      rw [← this, List.getElem?_cons_zero]
      exact congrArg some (Prod.ext rfl hp)
    | succ k =>
      rw [List.getElem?_cons_succ]
      exact ih (fun x hx => h x (List.mem_cons_of_mem _ hx)) k e (by simpa using he)
theorem one_len {l : List (Nat × List Txt)} (h : ∀ s ∈ l, ∃ p, s.2 = [p]) : (l.flatMap fun s => s.2.map fun p => (p, s.1)).length = l.length := by
  induction l with
  | nil => rfl
  | cons s l ih =>
    obtain ⟨p, hp⟩ := h s (List.mem_cons_self ..)
    rw [List.flatMap_cons, List.length_append, ih fun x hx => h x (List.mem_cons_of_mem _ hx), hp, List.length_cons]
    simp
    omega
section
variable {dir : Txt} {l : List Sg} {C : Nat → Txt} {d : Ds} {g : Sg}
theorem WalD.flip (h : WalD dir l C d) (hg : g ∈ l) (k : Nat) (hk : k < (C g.n).length) (x : UInt8) :
    (flipD d (wP dir (g.n : Int)) (k : Int) x).1 = 0 ∧ WalD dir l (fun j => if j = g.n then flipT (C g.n) k x else C j) (flipD d (wP dir (g.n : Int)) (k : Int) x).2 ∧ (flipD d (wP dir (g.n : Int)) (k : Int) x).2.cap = d.cap := by
  have e : flipD d (wP dir (g.n : Int)) (k : Int) x = (0, setF d g.i ⟨flipT (C g.n) k x, flipT (C g.n) k x, []⟩) := by
    unfold flipD
    rw [h.file hg]
    simp only []
    rw [h.now g hg, if_neg (by omega)]
    simp
  rw [e]
  have h2 := h.set hg ⟨flipT (C g.n) k x, flipT (C g.n) k x, []⟩
  exact ⟨rfl, ⟨h.off, h.aw, h.nm, h.th, h.ok, h2.lt, h.ne, h2.now⟩, rfl⟩
end
theorem flip_set {s : Txt} {k : Nat} (x : UInt8) (hk : k < s.length) : flipT s k x = s.set k (s[k] ^^^ x) := by
  unfold flipT
  rw [List.set_eq_take_append_cons_drop, if_pos hk, List.getElem?_eq_getElem hk]
  simp
theorem xor_ne {a x : UInt8} (hx : x ≠ 0) : a ^^^ x ≠ a := by
  intro h
  apply hx
  have : a ^^^ (a ^^^ x) = a ^^^ a := by rw [h]
  rw [← UInt8.xor_assoc, UInt8.xor_self, UInt8.zero_xor] at this
  exact this
/-- A frame of which a byte of the payload or of the sum is turned reads as spoilt. -/
theorem flip_reads {p : Txt} (h0 : p ≠ []) (h1 : p.length ≤ 1048576) {k : Nat} (hk1 : 4 ≤ k) (hk2 : k < p.length + 8) {x : UInt8} (hx : x ≠ 0) : rdT (flipT (frameT p) k x) = ([], 0, 22) := by
  have hkl : k < (frameT p).length := by rw [frameT_len]; omega
  have hu := unframe_turned p h0 h1 k hk1 hk2 ((frameT p)[k] ^^^ x) (by
    rw [List.getElem?_eq_getElem hkl]
    intro h
    exact xor_ne hx (Option.some.inj h).symm)
  refine rdT_bad ?_ (by rw [flip_set x hkl, hu]) (by decide)
  intro h
  have := congrArg List.length h
  rw [flip_set x hkl, List.length_set, frameT_len] at this
  simp at this
section
variable {dir : Txt} {m : WM} {l : List Sg} {i : Nat} {C : Nat → Txt} {d : Ds}
theorem WalR.at_ (h : WalR dir m l i C d) {s : Nat × List Txt} (hs : s ∈ m.segs) : (∃ g ∈ l ++ [(⟨m.n, i⟩ : Sg)], g.n = s.1) ∧ C s.1 = framesT s.2 := by
  rcases List.mem_append.1 hs with hs | hs
  · have hs' : s.1 ∈ l.map (·.n) := by rw [h.nums]; exact List.mem_map_of_mem hs
    obtain ⟨g, hg, hge⟩ := List.mem_map.1 hs'
    exact ⟨⟨g, List.mem_append_left _ hg, hge⟩, h.head s hs⟩
  · obtain rfl := List.mem_singleton.1 hs
    exact ⟨⟨_, h.mem, rfl⟩, h.last⟩
/-- The k-th segment's byte turned. -/
theorem WalR.flip (h : WalR dir m l i C d) (ho : m.Ok) {n : Nat} {p : Txt} (hs : (n, [p]) ∈ m.segs) {k : Nat} (hk1 : 4 ≤ k) (hk2 : k < p.length + 8) {x : UInt8} (hx : x ≠ 0) :
    (flipD d (wP dir (n : Int)) (k : Int) x).1 = 0 ∧ (∃ C', WalD dir (l ++ [⟨m.n, i⟩]) C' (flipD d (wP dir (n : Int)) (k : Int) x).2 ∧ rdT (C' n) = ([], 0, 22) ∧ (C' n).length = p.length + 9 ∧ ∀ j, j ≠ n → C' j = C j) ∧ (flipD d (wP dir (n : Int)) (k : Int) x).2.cap = d.cap := by
  obtain ⟨⟨g, hg, hgn⟩, hC⟩ := h.at_ hs
  dsimp only at hgn hC
  subst hgn
  rw [framesT_one] at hC
  obtain ⟨q0, q1⟩ := ho.ne _ hs p (List.mem_singleton.2 rfl)
  have hkl : k < (C g.n).length := by rw [hC, frameT_len]; omega
  obtain ⟨h1, h2, h3⟩ := h.w.flip hg k hkl x
  refine ⟨h1, ⟨_, h2, ?_, ?_, fun j hj => if_neg hj⟩, h3⟩
  · rw [if_pos rfl, hC]
    exact flip_reads q0 q1 hk1 hk2 hx
  · rw [if_pos rfl, flip_set x hkl, List.length_set, hC, frameT_len]
/-- The last segment cut to nothing, and made safe. -/
theorem WalR.mend {C' : Nat → Txt} {d' : Ds} (h : WalR dir m l i C d) (ho : m.Ok) (hw : WalD dir (l ++ [⟨m.n, i⟩]) C' d') (hC : ∀ j, j ≠ m.n → C' j = C j) :
    (cutD d' (wP dir (m.n : Int)) (0 : Nat)).1 = 0 ∧ (syncD (cutD d' (wP dir (m.n : Int)) (0 : Nat)).2 (wP dir (m.n : Int))).1 = 0 ∧
    (∃ C2, WalR dir ⟨m.init, m.n, []⟩ l i C2 (syncD (cutD d' (wP dir (m.n : Int)) (0 : Nat)).2 (wP dir (m.n : Int))).2) ∧ (syncD (cutD d' (wP dir (m.n : Int)) (0 : Nat)).2 (wP dir (m.n : Int))).2.cap = d'.cap := by
  obtain ⟨h1, h2, h3⟩ := hw.cut h.mem 0 (Nat.zero_le _)
  obtain ⟨h4, h5, h6⟩ := h2.sync h.mem
  refine ⟨h1, h4, ⟨_, h5, h.nums, fun s hs => ?_, ?_⟩, h6.trans h3⟩
  · have := (ho.lt s hs).2
    show (if s.1 = m.n then _ else C' s.1) = _
    rw [if_neg (by omega), hC _ (by omega)]
    exact h.head s hs
  · show (if m.n = m.n then (C' m.n).take 0 else _) = framesT []
    rw [if_pos rfl]
    rfl
end
end Go.Proofs.YtfpgbhimgfdddaaGreatDoor
