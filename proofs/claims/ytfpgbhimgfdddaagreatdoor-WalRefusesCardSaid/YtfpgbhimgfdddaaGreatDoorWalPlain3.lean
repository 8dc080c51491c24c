/- The plain law of layer 16 (wal): a log as segments of payloads, and the disk that holds it. No program in sight. -/
import Derived.Test.YtfpgbhimgfdddaaGreatDoorWalPlain2
set_option linter.unusedVariables false
set_option linter.unusedSimpArgs false
namespace Go.Proofs.YtfpgbhimgfdddaaGreatDoor

def framesT (l : List Txt) : Txt := (l.map frameT).flatten
theorem framesT_snoc (l : List Txt) (p : Txt) : framesT (l ++ [p]) = framesT l ++ frameT p := by simp [framesT]
theorem framesT_app (a b : List Txt) : framesT (a ++ b) = framesT a ++ framesT b := by simp [framesT]
theorem framesT_split {ps : List Txt} {k : Nat} {p : Txt} (h : ps[k]? = some p) : framesT ps = framesT (ps.take k) ++ frameT p ++ framesT (ps.drop (k + 1)) := by
  obtain ⟨hk, hp⟩ := List.getElem?_eq_some_iff.1 h
  have e : ps = ps.take k ++ ([p] ++ ps.drop (k + 1)) := by
    rw [← hp, List.singleton_append, List.getElem_cons_drop, List.take_append_drop]
  conv => lhs; rw [e]
  rw [framesT_app, framesT_app, List.append_assoc]
  congr 2
  simp [framesT]
theorem framesT_take {ps : List Txt} {k : Nat} {p : Txt} (h : ps[k]? = some p) : (framesT (ps.take (k + 1))).length = (framesT (ps.take k)).length + 9 + p.length := by
  rw [List.take_add_one, h]
  show (framesT (ps.take k ++ [p])).length = _
  rw [framesT_snoc, List.length_append, frameT_len]
  omega
/-- The frame at the place behind the first k. -/
theorem unframe_nth {ps : List Txt} {k : Nat} {p : Txt} (h : ps[k]? = some p) (h0 : p ≠ []) (h1 : p.length ≤ 1048576) (r : Txt) :
    unframeT (framesT ps ++ r) (framesT (ps.take k)).length = (p, (framesT (ps.take (k + 1))).length, 0) := by
  rw [framesT_split h, List.append_assoc, unframe_frame _ _ _ h0 h1, framesT_take h]
theorem framesT_lt {ps : List Txt} {k : Nat} (hk : k < ps.length) : (framesT (ps.take k)).length < (framesT ps).length := by
  rw [framesT_split (List.getElem?_eq_getElem hk)]
  simp only [List.length_append, frameT_len]
  omega
/-- A log: the segments ahead (number, payloads), the last one's number and payloads. -/
structure WM where
  init : List (Nat × List Txt)
  n : Nat
  ps : List Txt
def WM.used (m : WM) : Nat := (framesT m.ps).length
def WM.begin_ (m : WM) : WM := ⟨m.init ++ [(m.n, m.ps)], m.n + 1, []⟩
def WM.put (m : WM) (p : Txt) : WM := ⟨m.init, m.n, m.ps ++ [p]⟩
/-- Is the last segment too full for a frame so long? -/
def WM.full (m : WM) (size : Int) (k : Nat) : Bool := decide (0 < m.used) && decide (size - (k : Int) < (m.used : Int))
def WM.app (m : WM) (size : Int) (p : Txt) : WM := (if m.full size (p.length + 9) then m.begin_ else m).put p
def WM.rot (m : WM) : WM := if m.used = 0 then m else m.begin_
def WM.drop (m : WM) (before : Int) : WM := ⟨m.init.filter fun s => !decide ((s.1 : Int) < before), m.n, m.ps⟩
def WM.segs (m : WM) : List (Nat × List Txt) := m.init ++ [(m.n, m.ps)]
/-- The payloads with their segments. -/
def WM.kept (m : WM) : List (Txt × Nat) := m.segs.flatMap fun s => s.2.map fun p => (p, s.1)
def WM.texts (m : WM) : List Txt := m.segs.flatMap (·.2)
theorem WM.kept_texts (m : WM) : m.kept.map (·.1) = m.texts := by
  unfold WM.kept WM.texts
  rw [List.map_flatMap]
  congr 1
  funext s
  simp [Function.comp_def]
theorem WM.kept_begin (m : WM) : m.begin_.kept = m.kept := by simp [WM.kept, WM.begin_, WM.segs]
theorem WM.kept_put (m : WM) (p : Txt) : (m.put p).kept = m.kept ++ [(p, m.n)] := by simp [WM.kept, WM.put, WM.segs]
theorem WM.kept_drop (m : WM) (before : Int) (h : ∀ s ∈ m.init, s.1 < m.n) : (m.drop before).kept = m.kept.filter fun e => !(decide ((e.2 : Int) < before) && decide (e.2 < m.n)) := by
  have h1 : ∀ L : List (Nat × List Txt), (∀ s ∈ L, s.1 < m.n) → (L.filter fun s => !decide ((s.1 : Int) < before)).flatMap (fun s => s.2.map fun p => (p, s.1)) = (L.flatMap fun s => s.2.map fun p => (p, s.1)).filter fun e => !(decide ((e.2 : Int) < before) && decide (e.2 < m.n)) := by
    intro L
    induction L with
    | nil => intro _; rfl
    | cons s L ih =>
      intro hL
      have hs := hL s (List.mem_cons_self ..)
      have ih := ih fun x hx => hL x (List.mem_cons_of_mem _ hx)
      rw [List.flatMap_cons, List.filter_append, ← ih]
      by_cases hb : (s.1 : Int) < before
      · rw [List.filter_cons_of_neg (by simpa using hb)]
        have : (s.2.map fun p => (p, s.1)).filter (fun e => !(decide ((e.2 : Int) < before) && decide (e.2 < m.n))) = [] := by
          rw [List.filter_eq_nil_iff]
          intro e he
          obtain ⟨p, _, rfl⟩ := List.mem_map.1 he
          simp [hb, hs]
        rw [this, List.nil_append]
      · rw [List.filter_cons_of_pos (by simpa using hb), List.flatMap_cons]
        congr 1
        rw [List.filter_eq_self.2]
        intro e he
        obtain ⟨p, _, rfl⟩ := List.mem_map.1 he
        simp [hb]
  have h2 : (m.ps.map fun p => (p, m.n)).filter (fun e => !(decide ((e.2 : Int) < before) && decide (e.2 < m.n))) = m.ps.map fun p => (p, m.n) := by
    rw [List.filter_eq_self.2]
    intro e he
    obtain ⟨p, _, rfl⟩ := List.mem_map.1 he
    simp
  unfold WM.kept WM.segs WM.drop
  simp only [List.flatMap_append, List.filter_append, List.flatMap_cons, List.flatMap_nil, List.append_nil, h1 m.init h, h2]
/-- The segments' numbers rise; none is out of its range; each payload may stand in a frame. -/
structure WM.Ok (m : WM) : Prop where
  lt : ∀ s ∈ m.init, 1 ≤ s.1 ∧ s.1 < m.n
  asc : m.init.Pairwise fun a b => a.1 < b.1
  n1 : 1 ≤ m.n
  ne : ∀ s ∈ m.segs, ∀ p ∈ s.2, p ≠ [] ∧ p.length ≤ 1048576
theorem WM.Ok.begin_ {m : WM} (h : m.Ok) : m.begin_.Ok := by
  refine ⟨?_, ?_, ?_, ?_⟩
  · intro s hs
    show 1 ≤ s.1 ∧ s.1 < m.n + 1
    rcases List.mem_append.1 hs with hs | hs
    · have := h.lt s hs; omega
    · obtain rfl := List.mem_singleton.1 hs
      have := h.n1
      dsimp only
      omega
  · refine List.pairwise_append.2 ⟨h.asc, List.pairwise_singleton _ _, fun a ha b hb => ?_⟩
    obtain rfl := List.mem_singleton.1 hb
    exact (h.lt a ha).2
  · show 1 ≤ m.n + 1
    omega
  · intro s hs p hp
    rcases List.mem_append.1 hs with hs | hs
    · exact h.ne s hs p hp
    · obtain rfl := List.mem_singleton.1 hs
      cases hp
theorem WM.Ok.put {m : WM} (h : m.Ok) {p : Txt} (hp0 : p ≠ []) (hp1 : p.length ≤ 1048576) : (m.put p).Ok := by
  refine ⟨h.lt, h.asc, h.n1, fun s hs q hq => ?_⟩
  rcases List.mem_append.1 hs with hs | hs
  · exact h.ne s (List.mem_append_left _ hs) q hq
  · obtain rfl := List.mem_singleton.1 hs
    rcases List.mem_append.1 hq with hq | hq
    · exact h.ne (m.n, m.ps) (List.mem_append_right _ (List.mem_singleton.2 rfl)) q hq
    · obtain rfl := List.mem_singleton.1 hq
      exact ⟨hp0, hp1⟩
theorem WM.Ok.drop {m : WM} (h : m.Ok) (before : Int) : (m.drop before).Ok := by
  refine ⟨fun s hs => h.lt s ((List.mem_filter.1 hs).1), h.asc.filter _, h.n1, fun s hs p hp => ?_⟩
  rcases List.mem_append.1 hs with hs | hs
  · exact h.ne s (List.mem_append_left _ ((List.mem_filter.1 hs).1)) p hp
  · exact h.ne s (List.mem_append_right _ hs) p hp
/-- The disk holds the log: the segments' files are l, the last one's is i. -/
structure WalR (dir : Txt) (m : WM) (l : List Sg) (i : Nat) (C : Nat → Txt) (d : Ds) : Prop where
  w : WalD dir (l ++ [⟨m.n, i⟩]) C d
  nums : l.map (·.n) = m.init.map (·.1)
  head : ∀ s ∈ m.init, C s.1 = framesT s.2
  last : C m.n = framesT m.ps
section
variable {dir : Txt} {m : WM} {l : List Sg} {i : Nat} {C : Nat → Txt} {d : Ds}
theorem WalR.mem (_ : WalR dir m l i C d) : (⟨m.n, i⟩ : Sg) ∈ l ++ [⟨m.n, i⟩] := List.mem_append_right _ (List.mem_singleton.2 rfl)
theorem WalR.le (h : WalR dir m l i C d) : ∀ g ∈ l ++ [⟨m.n, i⟩], g.n < m.n + 1 := by
  intro g hg
  rcases List.mem_append.1 hg with hg | hg
  · have := (List.pairwise_append.1 h.w.ok.asc).2.2 g hg ⟨m.n, i⟩ (List.mem_singleton.2 rfl)
    dsimp only at this
    omega
  · obtain rfl := List.mem_singleton.1 hg
    exact Nat.lt_succ_self _
theorem WalR.rng (h : WalR dir m l i C d) : 1 ≤ m.n ∧ m.n ≤ 99999999 := h.w.ok.rng _ h.mem
theorem WalR.used (h : WalR dir m l i C d) : usedD d = ((m.init.map fun s => (framesT s.2).length).sum + (framesT m.ps).length) := by
  rw [h.w.used, List.map_append, List.sum_append]
  simp only [List.map_cons, List.map_nil, List.sum_cons, List.sum_nil, h.last, Nat.add_zero]
  congr 2
  have e : (l.map fun g => (C g.n).length) = (l.map (·.n)).map fun k => (C k).length := by rw [List.map_map]; rfl
  rw [e, h.nums, List.map_map]
  exact List.map_congr_left fun s hs => by simp only [Function.comp, h.head s hs]
/-- A new segment: its file made, its name safe. -/
def beginD (dir : Txt) (d : Ds) (n : Int) : Ds := (syncNamesD (createD d (wP dir n)).2).2
theorem WalR.begin_ (h : WalR dir m l i C d) (hn : m.n + 1 ≤ 99999999) :
    (createD d (wP dir ((m.n + 1 : Nat) : Int))).1 = 0 ∧ (syncNamesD (createD d (wP dir ((m.n + 1 : Nat) : Int))).2).1 = 0 ∧
    (∃ C', WalR dir m.begin_ (l ++ [⟨m.n, i⟩]) d.files.length C' (beginD dir d ((m.n + 1 : Nat) : Int))) ∧ (beginD dir d ((m.n + 1 : Nat) : Int)).cap = d.cap := by
  obtain ⟨h1, h2, h3⟩ := h.w.create (n := m.n + 1) (by omega) hn h.le
  obtain ⟨h4, h5, h6⟩ := h2.syncNames
  refine ⟨h1, h4, ⟨_, h5, ?_, ?_, ?_⟩, h6.trans h3⟩
  · show (l ++ [(⟨m.n, i⟩ : Sg)]).map (·.n) = (m.init ++ [(m.n, m.ps)]).map (·.1)
    rw [List.map_append, List.map_append, h.nums]
    rfl
  · intro s hs
    have hlt : s.1 ≠ m.n + 1 := by
      have hs' : s.1 ∈ (l ++ [(⟨m.n, i⟩ : Sg)]).map (·.n) := by
        have e : (l ++ [(⟨m.n, i⟩ : Sg)]).map (·.n) = (m.init ++ [(m.n, m.ps)]).map (·.1) := by rw [List.map_append, List.map_append, h.nums]; rfl
        rw [e]
        exact List.mem_map_of_mem hs
      obtain ⟨g, hg, hge⟩ := List.mem_map.1 hs'
      have := h.le g hg
      omega
    rw [if_neg hlt]
    rcases List.mem_append.1 hs with hs | hs
    · exact h.head s hs
    · obtain rfl := List.mem_singleton.1 hs
      exact h.last
  · show (if m.n + 1 = m.n + 1 then [] else C (m.n + 1)) = framesT []
    rw [if_pos rfl]
    rfl
/-- A payload more: its frame appended to the last file, the file made safe. -/
def putW (dir : Txt) (d : Ds) (n : Int) (p : Txt) : Ds := (syncD (appendD d (wP dir n) (frameT p)).2 (wP dir n)).2
theorem WalR.put (h : WalR dir m l i C d) (p : Txt) (hc : usedD d + (frameT p).length ≤ d.cap) :
    (appendD d (wP dir (m.n : Int)) (frameT p)).1 = 0 ∧ (syncD (appendD d (wP dir (m.n : Int)) (frameT p)).2 (wP dir (m.n : Int))).1 = 0 ∧
    (∃ C', WalR dir (m.put p) l i C' (putW dir d (m.n : Int) p)) ∧ (putW dir d (m.n : Int) p).cap = d.cap := by
  obtain ⟨h1, h2, h3⟩ := h.w.append h.mem (frameT p) hc
  obtain ⟨h4, h5, h6⟩ := h2.sync h.mem
  refine ⟨h1, h4, ⟨_, h5, h.nums, fun s hs => ?_, ?_⟩, h6.trans h3⟩
  · have hs' : s.1 ∈ l.map (·.n) := by rw [h.nums]; exact List.mem_map_of_mem hs
    obtain ⟨g, hg, hge⟩ := List.mem_map.1 hs'
    have := (List.pairwise_append.1 h.w.ok.asc).2.2 g hg ⟨m.n, i⟩ (List.mem_singleton.2 rfl)
    dsimp only at this ⊢
    rw [if_neg (by omega)]
    exact h.head s hs
  · show (if m.n = m.n then C m.n ++ frameT p else C m.n) = framesT (m.ps ++ [p])
    rw [if_pos rfl, h.last, framesT_snoc]
theorem WalR.all (h : WalR dir m l i C d) {s : Nat × List Txt} (hs : s ∈ m.segs) : allD d (wP dir (s.1 : Int)) = (framesT s.2, 0) := by
  rcases List.mem_append.1 hs with hs | hs
  · have hs' : s.1 ∈ l.map (·.n) := by rw [h.nums]; exact List.mem_map_of_mem hs
    obtain ⟨g, hg, hge⟩ := List.mem_map.1 hs'
    have := h.w.all (g := g) (List.mem_append_left _ hg)
    rw [hge, h.head s hs] at this
    exact this
  · obtain rfl := List.mem_singleton.1 hs
    have := h.w.all h.mem
    dsimp only at this ⊢
    rw [h.last] at this
    exact this
/-- What List tells of the directory: the segments' names. -/
theorem WalR.list (h : WalR dir m l i C d) : (listD d dir).2 = 0 ∧ (listD d dir).1.map (·.name) = m.segs.map fun s => nameT sS (s.1 : Int) := by
  rw [h.w.list]
  refine ⟨rfl, ?_⟩
  rw [List.map_map]
  have e : (l ++ [(⟨m.n, i⟩ : Sg)]).map (·.n) = m.segs.map (·.1) := by unfold WM.segs; rw [List.map_append, List.map_append, h.nums]; rfl
  have e2 : m.segs.map (fun s => nameT sS (s.1 : Int)) = (m.segs.map (·.1)).map fun k : Nat => nameT sS (k : Int) := by rw [List.map_map]; rfl
  rw [e2, ← e, List.map_map]
  rfl
end
end Go.Proofs.YtfpgbhimgfdddaaGreatDoor
