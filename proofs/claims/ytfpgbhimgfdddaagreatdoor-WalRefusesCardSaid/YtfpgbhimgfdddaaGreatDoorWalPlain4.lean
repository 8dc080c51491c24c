/- The plain law of layer 16 (wal): a new log; what Drop does to a log. No program in sight. -/
import Derived.Test.YtfpgbhimgfdddaaGreatDoorWalRead
set_option linter.unusedVariables false
set_option linter.unusedSimpArgs false
namespace Go.Proofs.YtfpgbhimgfdddaaGreatDoor
/-- A log on a new disk. -/
theorem wal_new {dir : Txt} (hd : nameB dir = true) (n : Nat) (h1 : 1 ≤ n) (h2 : n ≤ 99999999) (cap : Int) :
    ∃ d1 d2, mkdirD (newD cap) dir = (0, d1) ∧ syncNamesD d1 = (0, d2) ∧ listD d2 dir = ([], 0) ∧ (createD d2 (wP dir (n : Int))).1 = 0 ∧ (syncNamesD (createD d2 (wP dir (n : Int))).2).1 = 0 ∧
      (∃ i C, WalR dir ⟨[], n, []⟩ [] i C (beginD dir d2 (n : Int))) ∧ (beginD dir d2 (n : Int)).cap = (newD cap).cap := by
  obtain ⟨a1, a2, a3⟩ := WalD.mkdir_new hd (fun _ => []) cap
  obtain ⟨b1, b2, b3⟩ := a2.syncNames
  obtain ⟨c1, c2, c3⟩ := b2.create (n := n) h1 h2 (fun g hg => by cases hg)
  obtain ⟨e1, e2, e3⟩ := c2.syncNames
  refine ⟨_, _, Prod.ext a1 rfl, Prod.ext b1 rfl, ?_, c1, e1, ⟨_, _, ⟨e2, rfl, (fun s hs => by cases hs), ?_⟩⟩, ?_⟩
  · have := b2.list
    simpa using this
  · show (if n = n then [] else _) = framesT []
    rw [if_pos rfl]
    rfl
  · exact e3.trans (c3.trans (b3.trans a3))
/-- What is removed of a directory of segments. -/
def goB (before last : Int) (n : Nat) : Bool := decide ((n : Int) < before) && decide ((n : Int) < last)
def dropsL (D : Txt) (before last : Int) : List Nat → Ds → Ds
  | [], d => d
  | n :: l, d => dropsL D before last l (if goB before last n then (removeD d (wP D (n : Int))).2 else d)
theorem drop_many {dir : Txt} {C : Nat → Txt} (before last : Int) : ∀ (ns : List Nat) (L : List Sg) (d : Ds), WalD dir L C d → (∀ n ∈ ns, ∃ g ∈ L, g.n = n) → ns.Nodup →
    (∀ (i n : Nat), ns[i]? = some n → goB before last n = true → (removeD (dropsL dir before last (ns.take i) d) (wP dir (n : Int))).1 = 0) ∧
    WalD dir (L.filter fun x => !(ns.contains x.n && goB before last x.n)) C (dropsL dir before last ns d) ∧ (dropsL dir before last ns d).cap = d.cap
  | [], L, d, h, _, _ => by
    refine ⟨fun i n hn => by simp at hn, ?_, rfl⟩
    have e : (L.filter fun x => !(([] : List Nat).contains x.n && goB before last x.n)) = L := List.filter_eq_self.2 fun x _ => by simp
    rw [e]
    exact h
  | n :: ns, L, d, h, hmem, hnd => by
    obtain ⟨hnn, hnd2⟩ := List.nodup_cons.1 hnd
    by_cases hb : goB before last n = true
    · obtain ⟨g, hg, rfl⟩ := hmem n (List.mem_cons_self ..)
      obtain ⟨h1, h2, h3⟩ := h.remove hg
      have hstep : ∀ l, dropsL dir before last (g.n :: l) d = dropsL dir before last l (removeD d (wP dir (g.n : Int))).2 := fun l => by rw [dropsL, if_pos hb]
      obtain ⟨k1, k2, k3⟩ := drop_many before last ns _ _ h2 (fun y hy => by
        obtain ⟨x, hx, e⟩ := hmem y (List.mem_cons_of_mem _ hy)
        refine ⟨x, List.mem_filter.2 ⟨hx, ?_⟩, e⟩
        have : x.n ≠ g.n := fun e2 => hnn (by rw [← e2, e]; exact hy)
        simpa using this) hnd2
      refine ⟨fun i y hy hgo => ?_, ?_, ?_⟩
      · cases i with
        | zero =>
          obtain rfl : g.n = y := by simpa using hy
          exact h1
        | succ i =>
          rw [List.take_succ_cons, hstep]
          exact k1 i y (by simpa using hy) hgo
      · rw [hstep]
        rw [List.filter_filter] at k2
        have e : (L.filter fun x => !((g.n :: ns).contains x.n && goB before last x.n)) = L.filter (fun x => (!(ns.contains x.n && goB before last x.n)) && (x.n != g.n)) := by
          refine List.filter_congr fun x _ => ?_
          by_cases hx : x.n = g.n
          · rw [hx]
            simp [hb]
          · have : (x.n == g.n) = false := by simpa using hx
            rw [List.contains_cons, this]
            simp [bne, this]
        rw [e]
        exact k2
      · rw [hstep]
        exact k3.trans h3
    · have hb' : goB before last n = false := by simpa using hb
      have hstep : ∀ l, dropsL dir before last (n :: l) d = dropsL dir before last l d := fun l => by rw [dropsL, if_neg (by simp [hb'])]
      obtain ⟨k1, k2, k3⟩ := drop_many before last ns L d h (fun y hy => hmem y (List.mem_cons_of_mem _ hy)) hnd2
      refine ⟨fun i y hy hgo => ?_, ?_, ?_⟩
      · cases i with
        | zero =>
          obtain rfl : n = y := by simpa using hy
          rw [hb'] at hgo
          cases hgo
        | succ i =>
          rw [List.take_succ_cons, hstep]
          exact k1 i y (by simpa using hy) hgo
      · rw [hstep]
        have e : (L.filter fun x => !((n :: ns).contains x.n && goB before last x.n)) = L.filter (fun x => !(ns.contains x.n && goB before last x.n)) := by
          refine List.filter_congr fun x _ => ?_
          by_cases hx : x.n = n
          · rw [hx, hb']
            simp
          · have : (x.n == n) = false := by simpa using hx
            rw [List.contains_cons, this, Bool.false_or]
        rw [e]
        exact k2
      · rw [hstep]
        exact k3
theorem WM.Ok.nodup {m : WM} (h : m.Ok) : (m.segs.map (·.1)).Nodup := by
  unfold WM.segs
  rw [List.map_append, List.nodup_append]
  refine ⟨?_, by simp, ?_⟩
  · rw [List.Nodup, List.pairwise_map]
    exact h.asc.imp fun hab => by omega
  · intro a ha b hb
    obtain ⟨s, hs, rfl⟩ := List.mem_map.1 ha
    have := (h.lt s hs).2
    simp at hb
    omega
/-- Drop of a log. -/
theorem WalR.drop {dir : Txt} {m : WM} {l : List Sg} {i : Nat} {C : Nat → Txt} {d : Ds} (h : WalR dir m l i C d) (ho : m.Ok) (before : Int) :
    (∀ (k n : Nat), (m.segs.map (·.1))[k]? = some n → goB before (m.n : Int) n = true → (removeD (dropsL dir before (m.n : Int) ((m.segs.map (·.1)).take k) d) (wP dir (n : Int))).1 = 0) ∧
    (syncNamesD (dropsL dir before (m.n : Int) (m.segs.map (·.1)) d)).1 = 0 ∧ (∃ l', WalR dir (m.drop before) l' i C (syncNamesD (dropsL dir before (m.n : Int) (m.segs.map (·.1)) d)).2) ∧
    (syncNamesD (dropsL dir before (m.n : Int) (m.segs.map (·.1)) d)).2.cap = d.cap := by
  have e : (l ++ [(⟨m.n, i⟩ : Sg)]).map (·.n) = m.segs.map (·.1) := by unfold WM.segs; rw [List.map_append, List.map_append, h.nums]; rfl
  obtain ⟨h1, h2, h3⟩ := drop_many before (m.n : Int) (m.segs.map (·.1)) _ d h.w (fun n hn => by
    rw [← e] at hn
    obtain ⟨g, hg, hgn⟩ := List.mem_map.1 hn
    exact ⟨g, hg, hgn⟩) ho.nodup
  obtain ⟨k1, k2, k3⟩ := h2.syncNames
  have hlast : ∀ g ∈ l, g.n < m.n := fun g hg => by
    have := (List.pairwise_append.1 h.w.ok.asc).2.2 g hg ⟨m.n, i⟩ (List.mem_singleton.2 rfl)
    exact this
  have ef : ((l ++ [(⟨m.n, i⟩ : Sg)]).filter fun x => !((m.segs.map (·.1)).contains x.n && goB before (m.n : Int) x.n)) = (l.filter fun x => !decide ((x.n : Int) < before)) ++ [⟨m.n, i⟩] := by
    rw [List.filter_append]
    congr 1
    · refine List.filter_congr fun x hx => ?_
      have hc : (m.segs.map (·.1)).contains x.n = true := by
        rw [List.contains_iff_mem, ← e]
        exact List.mem_map_of_mem (List.mem_append_left _ hx)
      have hl := hlast x hx
      have hl2 : decide ((x.n : Int) < (m.n : Int)) = true := by simpa using hl
      rw [hc]
      unfold goB
      rw [hl2]
      simp
    · rw [List.filter_cons_of_pos]
      · rfl
      · unfold goB
        simp
  rw [ef] at k2
  refine ⟨h1, k1, ⟨_, k2, ?_, fun s hs => h.head s (List.mem_filter.1 hs).1, h.last⟩, k3.trans h3⟩
  show (l.filter fun x => !decide ((x.n : Int) < before)).map (·.n) = (m.init.filter fun s => !decide ((s.1 : Int) < before)).map (·.1)
  have f1 : (l.filter fun x => !decide ((x.n : Int) < before)).map (·.n) = (l.map (·.n)).filter fun k : Nat => !decide ((k : Int) < before) := by rw [List.filter_map]; rfl
  have f2 : (m.init.filter fun s => !decide ((s.1 : Int) < before)).map (·.1) = (m.init.map (·.1)).filter fun k : Nat => !decide ((k : Int) < before) := by rw [List.filter_map]; rfl
  rw [f1, f2, h.nums]
/-- How many payloads, how many bytes. -/
theorem frames_count : ∀ ps : List Txt, ps.length ≤ (framesT ps).length
  | [] => Nat.le_refl _
  | p :: ps => by
    have := frames_count ps
    have e : framesT (p :: ps) = frameT p ++ framesT ps := by simp [framesT]
    rw [e, List.length_append, frameT_len, List.length_cons]
    omega
theorem segs_count : ∀ l : List (Nat × List Txt), (l.flatMap (·.2)).length ≤ (l.map fun s => (framesT s.2).length).sum
  | [] => Nat.le_refl _
  | s :: l => by
    have h1 := segs_count l
    have h2 := frames_count s.2
    rw [List.flatMap_cons, List.length_append, List.map_cons, List.sum_cons]
    omega
theorem sum_mem {l : List (Nat × List Txt)} {s : Nat × List Txt} (h : s ∈ l) : (framesT s.2).length ≤ (l.map fun s => (framesT s.2).length).sum := by
  induction l with
  | nil => cases h
  | cons x l ih =>
    rw [List.map_cons, List.sum_cons]
    rcases List.mem_cons.1 h with rfl | h
    · omega
    · have := ih h; omega
theorem WalR.used2 {dir : Txt} {m : WM} {l : List Sg} {i : Nat} {C : Nat → Txt} {d : Ds} (h : WalR dir m l i C d) : usedD d = (m.segs.map fun s => (framesT s.2).length).sum := by
  rw [h.used]
  unfold WM.segs
  rw [List.map_append, List.sum_append]
  simp
end Go.Proofs.YtfpgbhimgfdddaaGreatDoor
