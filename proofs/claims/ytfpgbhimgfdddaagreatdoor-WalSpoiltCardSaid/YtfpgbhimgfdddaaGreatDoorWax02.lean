/- Merged: WalRead, WalPlain4, WalWalksA, WalWalksB, WalWalksC, WalWalksD. -/
import Derived.Test.YtfpgbhimgfdddaaGreatDoorWax01
import Derived.Test.YtfpgbhimgfdddaaGreatDoorWak16
import Derived.Test.YtfpgbhimgfdddaaGreatDoorWak17
import Derived.Test.YtfpgbhimgfdddaaGreatDoorWak08
import Derived.Test.YtfpgbhimgfdddaaGreatDoorWak14
import Derived.Test.YtfpgbhimgfdddaaGreatDoorShelfB
import Derived.Test.YtfpgbhimgfdddaaGreatDoorWak15
import Derived.Lib.SmallJoins
set_option linter.unusedVariables false
set_option linter.unusedSimpArgs false
/-! ## WalRead -/
/- The plain law of layer 16 (wal): what a segment's text reads as. No program in sight. -/
namespace Go.Proofs.YtfpgbhimgfdddaaGreatDoor

/-- The payloads from a place on, the place where they end, the error. -/
def readsT (s : Txt) : Nat → Nat → List Txt × Nat × Nat
  | 0, i => ([], i, 0)
  | f + 1, i => if i < s.length then (if (unframeT s i).2.2 ≠ 0 then ([], i, (unframeT s i).2.2) else
      ((unframeT s i).1 :: (readsT s f (unframeT s i).2.1).1, (readsT s f (unframeT s i).2.1).2)) else ([], i, 0)
def rdT (s : Txt) : List Txt × Nat × Nat := readsT s s.length 0
theorem unframe_next {s : Txt} {i : Nat} (h : (unframeT s i).2.2 = 0) : i < (unframeT s i).2.1 ∧ (unframeT s i).2.1 ≤ s.length ∧ (unframeT s i).1.length ≤ 1048576 := by
  unfold unframeT at h ⊢
  split at h
  · cases h
  · rename_i h1
    rw [if_neg h1]
    split at h
    · cases h
    · rename_i h2
      rw [if_neg h2]
      split at h
      · cases h
      · rename_i h3
        rw [if_neg h3]
        split at h
        · cases h
        · rename_i h4
          rw [if_neg h4]
          split at h
          · cases h
          · rename_i h5
            rw [if_neg h5]
            rw [List.length_drop] at h3
            refine ⟨by dsimp only; omega, by dsimp only; omega, ?_⟩
            dsimp only
            rw [List.length_take]
            omega
theorem unframe_code (s : Txt) (i : Nat) : (unframeT s i).2.2 = 0 ∨ (unframeT s i).2.2 = 20 ∨ (unframeT s i).2.2 = 21 ∨ (unframeT s i).2.2 = 22 := by
  unfold unframeT
  repeat' split
  all_goals simp
theorem readsT_end {s : Txt} {f i : Nat} (h : ¬ i < s.length) : readsT s f i = ([], i, 0) := by
  cases f with
  | zero => rfl
  | succ f => rw [readsT, if_neg h]
theorem readsT_bad {s : Txt} {f i : Nat} (h : i < s.length) (he : (unframeT s i).2.2 ≠ 0) : readsT s (f + 1) i = ([], i, (unframeT s i).2.2) := by
  rw [readsT, if_pos h, if_pos he]
theorem readsT_good {s : Txt} {f i : Nat} (h : i < s.length) (he : (unframeT s i).2.2 = 0) : readsT s (f + 1) i = ((unframeT s i).1 :: (readsT s f (unframeT s i).2.1).1, (readsT s f (unframeT s i).2.1).2) := by
  rw [readsT, if_pos h, if_neg (by simpa using he)]
/-- Frames, one behind the other. -/
theorem readsT_frames (ps : List Txt) (r : Txt) (hp : ∀ p ∈ ps, p ≠ [] ∧ p.length ≤ 1048576) : ∀ (m k f : Nat), k + m = ps.length → (framesT ps ++ r).length ≤ (framesT (ps.take k)).length + f →
    readsT (framesT ps ++ r) f (framesT (ps.take k)).length = (ps.drop k ++ (readsT (framesT ps ++ r) (f - m) (framesT ps).length).1, (readsT (framesT ps ++ r) (f - m) (framesT ps).length).2)
  | 0, k, f, hk, hf => by
    rw [Nat.sub_zero, List.drop_of_length_le (by omega), List.take_of_length_le (by omega)]
    rfl
  | m + 1, k, f, hk, hf => by
    have hk' : k < ps.length := by omega
    have hlt := framesT_lt hk'
    have hpk := hp _ (List.getElem_mem hk')
    have hu := unframe_nth (ps := ps) (k := k) (List.getElem?_eq_getElem hk') hpk.1 hpk.2 r
    have hll : (framesT (ps.take k)).length < (framesT ps ++ r).length := by rw [List.length_append]; omega
    obtain ⟨f', rfl⟩ : ∃ f', f = f' + 1 := ⟨f - 1, by omega⟩
    rw [readsT_good hll (by rw [hu]), hu]
    have hnx : (framesT (ps.take (k + 1))).length = (framesT (ps.take k)).length + 9 + (ps[k]).length := framesT_take (List.getElem?_eq_getElem hk')
    have ih := readsT_frames ps r hp m (k + 1) f' (by omega) (by omega)
    simp only
    rw [ih, List.drop_eq_getElem_cons hk', show f' + 1 - (m + 1) = f' - m by omega]
    rfl
theorem rdT_frames (ps : List Txt) (hp : ∀ p ∈ ps, p ≠ [] ∧ p.length ≤ 1048576) : rdT (framesT ps) = (ps, (framesT ps).length, 0) := by
  have h := readsT_frames ps [] hp ps.length 0 (framesT ps).length (by omega) (by simp)
  have e0 : (framesT (ps.take 0)).length = 0 := rfl
  rw [List.append_nil, e0] at h
  unfold rdT
  rw [h, readsT_end (Nat.lt_irrefl _)]
  simp
/-- A text whose first frame is spoilt. -/
theorem rdT_bad {s : Txt} (h0 : s ≠ []) {e : Nat} (he : (unframeT s 0).2.2 = e) (h : e ≠ 0) : rdT s = ([], 0, e) := by
  have hl : 0 < s.length := List.length_pos_iff.2 h0
  unfold rdT
  obtain ⟨f, hf⟩ : ∃ f, s.length = f + 1 := ⟨s.length - 1, by omega⟩
  rw [hf, readsT_bad hl (by rw [he]; exact h), he]
/-- What is read: how much it may be. -/
theorem readsT_le {s : Txt} : ∀ (f i : Nat), i ≤ s.length → i ≤ (readsT s f i).2.1 ∧ (readsT s f i).2.1 ≤ s.length ∧ (readsT s f i).1.length + i ≤ (readsT s f i).2.1
  | 0, i, h => ⟨Nat.le_refl _, h, by simp [readsT]⟩
  | f + 1, i, h => by
    by_cases hi : i < s.length
    · by_cases he : (unframeT s i).2.2 = 0
      · have hn := unframe_next he
        have ih := readsT_le f (unframeT s i).2.1 hn.2.1
        rw [readsT_good hi he]
        refine ⟨by dsimp only; omega, ih.2.1, ?_⟩
        dsimp only
        rw [List.length_cons]
        omega
      · rw [readsT_bad hi he]
        exact ⟨Nat.le_refl _, h, by simp⟩
    · rw [readsT_end hi]
      exact ⟨Nat.le_refl _, h, by simp⟩
theorem readsT_code {s : Txt} : ∀ (f i : Nat), (readsT s f i).2.2 = 0 ∨ (readsT s f i).2.2 = 20 ∨ (readsT s f i).2.2 = 21 ∨ (readsT s f i).2.2 = 22
  | 0, i => .inl rfl
  | f + 1, i => by
    by_cases hi : i < s.length
    · by_cases he : (unframeT s i).2.2 = 0
      · rw [readsT_good hi he]
        exact readsT_code f _
      · rw [readsT_bad hi he]
        exact unframe_code s i
    · rw [readsT_end hi]
      exact .inl rfl
end Go.Proofs.YtfpgbhimgfdddaaGreatDoor

/-! ## WalPlain4 -/
/- The plain law of layer 16 (wal): a new log; what Drop does to a log. No program in sight. -/
namespace Go.Proofs.YtfpgbhimgfdddaaGreatDoor
/-- A log on a new disk. -/
theorem wal_new {dir : Txt} (hd : nameB dir = true) (n : Nat) (h1 : 1 ≤ n) (h2 : n ≤ 99999999) (cap : Int) :
    ∃ d1 d2, mkdirD (newD cap) dir = (0, d1) ∧ syncNamesD d1 = (0, d2) ∧ listD d2 dir = ([], 0) ∧ (createD d2 (wP dir (n : Int))).1 = 0 ∧ (syncNamesD (createD d2 (wP dir (n : Int))).2).1 = 0 ∧
      (∃ i C, WalR dir ⟨[], n, []⟩ [] i C (beginD dir d2 (n : Int))) ∧ (beginD dir d2 (n : Int)).cap = (newD cap).cap := by
  obtain ⟨a1, a2, a3⟩ := WalD.mkdir_new hd (fun _ => []) cap
  obtain ⟨b1, b2, b3⟩ := a2.syncNames
  obtain ⟨c1, c2, c3⟩ := b2.create (n := n) h1 h2 (fun g hg => by cases hg)
  obtain ⟨e1, e2, e3⟩ := c2.syncNames
  refine ⟨_, _, Prod.ext a1 rfl, Prod.ext b1 rfl, ?_, c1, e1, ⟨_, _, ⟨e2, rfl, (fun s hs => by cases hs), ?_⟩⟩, ?_⟩
  · have := b2.list
    simpa using this
  · show (if n = n then [] else _) = framesT []
    rw [if_pos rfl]
    rfl
  · exact e3.trans (c3.trans (b3.trans a3))
/-- What is removed of a directory of segments. -/
def goB (before last : Int) (n : Nat) : Bool := decide ((n : Int) < before) && decide ((n : Int) < last)
def dropsL (D : Txt) (before last : Int) : List Nat → Ds → Ds
  | [], d => d
  | n :: l, d => dropsL D before last l (if goB before last n then (removeD d (wP D (n : Int))).2 else d)
theorem drop_many {dir : Txt} {C : Nat → Txt} (before last : Int) : ∀ (ns : List Nat) (L : List Sg) (d : Ds), WalD dir L C d → (∀ n ∈ ns, ∃ g ∈ L, g.n = n) → ns.Nodup →
    (∀ (i n : Nat), ns[i]? = some n → goB before last n = true → (removeD (dropsL dir before last (ns.take i) d) (wP dir (n : Int))).1 = 0) ∧
    WalD dir (L.filter fun x => !(ns.contains x.n && goB before last x.n)) C (dropsL dir before last ns d) ∧ (dropsL dir before last ns d).cap = d.cap
  | [], L, d, h, _, _ => by
    refine ⟨fun i n hn => by simp at hn, ?_, rfl⟩
    have e : (L.filter fun x => !(([] : List Nat).contains x.n && goB before last x.n)) = L := List.filter_eq_self.2 fun x _ => by simp
    rw [e]
    exact h
  | n :: ns, L, d, h, hmem, hnd => by
    obtain ⟨hnn, hnd2⟩ := List.nodup_cons.1 hnd
    by_cases hb : goB before last n = true
    · obtain ⟨g, hg, rfl⟩ := hmem n (List.mem_cons_self ..)
      obtain ⟨h1, h2, h3⟩ := h.remove hg
      have hstep : ∀ l, dropsL dir before last (g.n :: l) d = dropsL dir before last l (removeD d (wP dir (g.n : Int))).2 := fun l => by rw [dropsL, if_pos hb]
      obtain ⟨k1, k2, k3⟩ := drop_many before last ns _ _ h2 (fun y hy => by
        obtain ⟨x, hx, e⟩ := hmem y (List.mem_cons_of_mem _ hy)
        refine ⟨x, List.mem_filter.2 ⟨hx, ?_⟩, e⟩
        have : x.n ≠ g.n := fun e2 => hnn (by rw [← e2, e]; exact hy)
        simpa using this) hnd2
      refine ⟨fun i y hy hgo => ?_, ?_, ?_⟩
      · cases i with
        | zero =>
          obtain rfl : g.n = y := by simpa using hy
          exact h1
        | succ i =>
          rw [List.take_succ_cons, hstep]
          exact k1 i y (by simpa using hy) hgo
      · rw [hstep]
        rw [List.filter_filter] at k2
        have e : (L.filter fun x => !((g.n :: ns).contains x.n && goB before last x.n)) = L.filter (fun x => (!(ns.contains x.n && goB before last x.n)) && (x.n != g.n)) := by
          refine List.filter_congr fun x _ => ?_
          by_cases hx : x.n = g.n
          · rw [hx]
            simp [hb]
          · have : (x.n == g.n) = false := by simpa using hx
            rw [List.contains_cons, this]
            simp [bne, this]
        rw [e]
        exact k2
      · rw [hstep]
        exact k3.trans h3
    · have hb' : goB before last n = false := by simpa using hb
      have hstep : ∀ l, dropsL dir before last (n :: l) d = dropsL dir before last l d := fun l => by rw [dropsL, if_neg (by simp [hb'])]
      obtain ⟨k1, k2, k3⟩ := drop_many before last ns L d h (fun y hy => hmem y (List.mem_cons_of_mem _ hy)) hnd2
      refine ⟨fun i y hy hgo => ?_, ?_, ?_⟩
      · cases i with
        | zero =>
          obtain rfl : n = y := by simpa using hy
          rw [hb'] at hgo
          cases hgo
        | succ i =>
          rw [List.take_succ_cons, hstep]
          exact k1 i y (by simpa using hy) hgo
      · rw [hstep]
        have e : (L.filter fun x => !((n :: ns).contains x.n && goB before last x.n)) = L.filter (fun x => !(ns.contains x.n && goB before last x.n)) := by
          refine List.filter_congr fun x _ => ?_
          by_cases hx : x.n = n
          · rw [hx, hb']
            simp
          · have : (x.n == n) = false := by simpa using hx
            rw [List.contains_cons, this, Bool.false_or]
        rw [e]
        exact k2
      · rw [hstep]
        exact k3
theorem WM.Ok.nodup {m : WM} (h : m.Ok) : (m.segs.map (·.1)).Nodup := by
  unfold WM.segs
  rw [List.map_append, List.nodup_append]
  refine ⟨?_, by simp, ?_⟩
  · rw [List.Nodup, List.pairwise_map]
    exact h.asc.imp fun hab => by omega
  · intro a ha b hb
    obtain ⟨s, hs, rfl⟩ := List.mem_map.1 ha
    have := (h.lt s hs).2
    simp at hb
    omega
/-- Drop of a log. -/
theorem WalR.drop {dir : Txt} {m : WM} {l : List Sg} {i : Nat} {C : Nat → Txt} {d : Ds} (h : WalR dir m l i C d) (ho : m.Ok) (before : Int) :
    (∀ (k n : Nat), (m.segs.map (·.1))[k]? = some n → goB before (m.n : Int) n = true → (removeD (dropsL dir before (m.n : Int) ((m.segs.map (·.1)).take k) d) (wP dir (n : Int))).1 = 0) ∧
    (syncNamesD (dropsL dir before (m.n : Int) (m.segs.map (·.1)) d)).1 = 0 ∧ (∃ l', WalR dir (m.drop before) l' i C (syncNamesD (dropsL dir before (m.n : Int) (m.segs.map (·.1)) d)).2) ∧
    (syncNamesD (dropsL dir before (m.n : Int) (m.segs.map (·.1)) d)).2.cap = d.cap := by
  have e : (l ++ [(⟨m.n, i⟩ : Sg)]).map (·.n) = m.segs.map (·.1) := by unfold WM.segs; rw [List.map_append, List.map_append, h.nums]; rfl
  obtain ⟨h1, h2, h3⟩ := drop_many before (m.n : Int) (m.segs.map (·.1)) _ d h.w (fun n hn => by
    rw [← e] at hn
    obtain ⟨g, hg, hgn⟩ := List.mem_map.1 hn
    exact ⟨g, hg, hgn⟩) ho.nodup
  obtain ⟨k1, k2, k3⟩ := h2.syncNames
  have hlast : ∀ g ∈ l, g.n < m.n := fun g hg => by
    have := (List.pairwise_append.1 h.w.ok.asc).2.2 g hg ⟨m.n, i⟩ (List.mem_singleton.2 rfl)
    exact this
  have ef : ((l ++ [(⟨m.n, i⟩ : Sg)]).filter fun x => !((m.segs.map (·.1)).contains x.n && goB before (m.n : Int) x.n)) = (l.filter fun x => !decide ((x.n : Int) < before)) ++ [⟨m.n, i⟩] := by
    rw [List.filter_append]
    congr 1
    · refine List.filter_congr fun x hx => ?_
      have hc : (m.segs.map (·.1)).contains x.n = true := by
        rw [List.contains_iff_mem, ← e]
        exact List.mem_map_of_mem (List.mem_append_left _ hx)
      have hl := hlast x hx
      have hl2 : decide ((x.n : Int) < (m.n : Int)) = true := by simpa using hl
      rw [hc]
      unfold goB
      rw [hl2]
      simp
    · rw [List.filter_cons_of_pos]
      · rfl
      · unfold goB
        simp
  rw [ef] at k2
  refine ⟨h1, k1, ⟨_, k2, ?_, fun s hs => h.head s (List.mem_filter.1 hs).1, h.last⟩, k3.trans h3⟩
  show (l.filter fun x => !decide ((x.n : Int) < before)).map (·.n) = (m.init.filter fun s => !decide ((s.1 : Int) < before)).map (·.1)
  have f1 : (l.filter fun x => !decide ((x.n : Int) < before)).map (·.n) = (l.map (·.n)).filter fun k : Nat => !decide ((k : Int) < before) := by rw [List.filter_map]; rfl
  have f2 : (m.init.filter fun s => !decide ((s.1 : Int) < before)).map (·.1) = (m.init.map (·.1)).filter fun k : Nat => !decide ((k : Int) < before) := by rw [List.filter_map]; rfl
  rw [f1, f2, h.nums]
/-- How many payloads, how many bytes. -/
theorem frames_count : ∀ ps : List Txt, ps.length ≤ (framesT ps).length
  | [] => Nat.le_refl _
  | p :: ps => by
    have := frames_count ps
    have e : framesT (p :: ps) = frameT p ++ framesT ps := by simp [framesT]
    rw [e, List.length_append, frameT_len, List.length_cons]
    omega
theorem segs_count : ∀ l : List (Nat × List Txt), (l.flatMap (·.2)).length ≤ (l.map fun s => (framesT s.2).length).sum
  | [] => Nat.le_refl _
  | s :: l => by
    have h1 := segs_count l
    have h2 := frames_count s.2
    rw [List.flatMap_cons, List.length_append, List.map_cons, List.sum_cons]
    omega
theorem sum_mem {l : List (Nat × List Txt)} {s : Nat × List Txt} (h : s ∈ l) : (framesT s.2).length ≤ (l.map fun s => (framesT s.2).length).sum := by
  induction l with
  | nil => cases h
  | cons x l ih =>
    rw [List.map_cons, List.sum_cons]
    rcases List.mem_cons.1 h with rfl | h
    · omega
    · have := ih h; omega
theorem WalR.used2 {dir : Txt} {m : WM} {l : List Sg} {i : Nat} {C : Nat → Txt} {d : Ds} (h : WalR dir m l i C d) : usedD d = (m.segs.map fun s => (framesT s.2).length).sum := by
  rw [h.used]
  unfold WM.segs
  rw [List.map_append, List.sum_append]
  simp
end Go.Proofs.YtfpgbhimgfdddaaGreatDoor

/-! ## WalWalksA -/
/- The walks of layer 16 (wal): the name of a segment, its path, the last number. -/
namespace Go.Proofs.YtfpgbhimgfdddaaGreatDoor
open Go.RowKit Go.Shelf Go.Sort
attribute [local go_sem ↓] Go.wp_at_zero Go.wp_at_succ
attribute [local go_sem] Later.cell Later.frozen

set_option maxRecDepth 100000 in
set_option maxHeartbeats 1000000 in
theorem wname_calls (n : Int) (h1 : -9223372036854775808 ≤ n) (h2 : n ≤ 9223372036854775807) (w : World) (hT : PowTab w) :
    Calls Tryz.prog 36 #[.int .i64 n] w fun e w' => e = .returned (.string ⟨(nameT sS n).toArray⟩) ∧ Below w.heap.size w w' := by
  by_cases hlo : n < 1
  · have d1 : decide (n < 1) = true := by simpa using hlo
    have hf : nameT sS n = [] := nameT_bad _ (.inl hlo)
    rw [hf]
    clear hf
    go_enter Tryz.func36, Tryz.ntmps36
    go_wp2_with fail
    go_ret
    exact ⟨rfl, Below.refl _ _⟩
  · have d1 : decide (n < 1) = false := by simpa using hlo
    by_cases hhi : 99999999 < n
    · have d2 : decide (99999999 < n) = true := by simpa using hhi
      have hf : nameT sS n = [] := nameT_bad _ (.inr hhi)
      rw [hf]
      clear hf
      go_enter Tryz.func36, Tryz.ntmps36
      go_wp2_with fail
      go_ret
      exact ⟨rfl, Below.refl _ _⟩
    · have d2 : decide (99999999 < n) = false := by simpa using hhi
      have hf : nameT sS n = sS ++ padN 8 n.toNat := nameT_good _ (by omega) (by omega)
      obtain ⟨hd1, hd2⟩ := pad_dec 7 n.toNat (by omega)
      have hit : Lib.itoa n = Lib.decDigits n.toNat := by unfold Lib.itoa; rw [if_neg (by omega)]
      obtain ⟨D, hD⟩ : ∃ D : ByteArray, (⟨(Lib.itoa n).toArray⟩ : ByteArray) = D := ⟨_, rfl⟩
      have hDl : D.data.toList = Lib.decDigits n.toNat := by rw [← hD, hit]
      have hDs : D.size ≤ 8 := by rw [← text_size3, hDl]; exact hd1
      obtain ⟨c, hc⟩ : ∃ c : Nat, (8 : Int) - (D.size : Int) = (c : Int) := ⟨8 - D.size, by omega⟩
      obtain ⟨Z, hZ⟩ : ∃ Z : ByteArray, (⟨(Lib.repeatL (⟨#[48]⟩ : ByteArray).data.toList c).toArray⟩ : ByteArray) = Z := ⟨_, rfl⟩
      have hZl : Z.data.toList = List.replicate c 48 := by rw [← hZ]; exact repeat_one 48 c
      have hZs : Z.size ≤ 8 := by rw [← text_size3, hZl, List.length_replicate]; omega
      have HIT := Lib.hid (Tryz.strconv_Itoa n h1 h2 w hT)
      have HRP := Lib.hid (fun w => Tryz.strings_Repeat ⟨#[48]⟩ c w (by omega) (by show 1 * c ≤ _; omega))
      rw [hD] at HIT
      rw [hZ] at HRP
      have hfin : (⟨#[115]⟩ : ByteArray) ++ Z ++ D = (⟨(nameT sS n).toArray⟩ : ByteArray) := by
        refine bytes_eq ?_
        have e : 7 + 1 - (Lib.decDigits n.toNat).length = c := by rw [← hDl, text_size3]; omega
        rw [e] at hd2
        rw [hf, ← hd2]
        simp [ByteArray.data_append, hZl, hDl, sS]
      have HFIN := Lib.hid hfin
      clear hf hd1 hd2 hit hD hDl hZ hZl hfin
      go_enter Tryz.func36, Tryz.ntmps36
      go_wp2_with fail
      refine HIT.out.mono ?_
      rintro _ w1 ⟨rfl, k, os, rfl⟩
      have hb1 : Below w.heap.size w (grow (w.drewN k) os) := below_grow (below_drewN w k) (Nat.le_refl _) os
      obtain ⟨w1, hw1⟩ : ∃ x, grow (w.drewN k) os = x := ⟨_, rfl⟩
      rw [hw1] at hb1 ⊢
      clear hw1
      go_wp2_with fail
      refine (HRP.out w1).mono ?_
      rintro _ w2 ⟨rfl, hb2⟩
      have HB := Lib.hid (then_ hb1 hb2)
      clear hb1 hb2
      go_wp2_with fail
      rw [HFIN.out]
      go_ret
      exact ⟨rfl, HB.out⟩

/-- A log in memory. -/
def LogC (p : Nat) (D : ByteArray) (size last used : Int) : Array Value := #[.pointer (some ⟨p, 0, none⟩), .string D, .int .i64 size, .int .i64 last, .int .i64 used]
def LogAt (w : World) (g p : Nat) (D : ByteArray) (size last used : Int) : Prop := Blk w g 175 (LogC p D size last used)
section
variable {w w' : World} {g p : Nat} {D : ByteArray} {size last used : Int}
theorem LogAt.c0 (h : LogAt w g p D size last used) : w.cell? ⟨g, 0, none⟩ = some (.pointer (some ⟨p, 0, none⟩)) := Blk.cell h 0
theorem LogAt.c1 (h : LogAt w g p D size last used) : w.cell? ⟨g, 1, none⟩ = some (.string D) := Blk.cell h 1
theorem LogAt.c2 (h : LogAt w g p D size last used) : w.cell? ⟨g, 2, none⟩ = some (.int .i64 size) := Blk.cell h 2
theorem LogAt.c3 (h : LogAt w g p D size last used) : w.cell? ⟨g, 3, none⟩ = some (.int .i64 last) := Blk.cell h 3
theorem LogAt.c4 (h : LogAt w g p D size last used) : w.cell? ⟨g, 4, none⟩ = some (.int .i64 used) := Blk.cell h 4
theorem LogAt.lt (h : LogAt w g p D size last used) : g < w.heap.size := Blk.lt h
theorem LogAt.below (h : LogAt w g p D size last used) (hb : Below w.heap.size w w') : LogAt w' g p D size last used := Blk.below h hb (Blk.lt h)
theorem LogAt.blk (h : LogAt w g p D size last used) : Blk w g 175 (LogC p D size last used) := h
theorem LogAt.set (h : LogAt w g p D size last used) (l2 u2 : Int) : LogAt ((w.setCell ⟨g, 3, none⟩ (.int .i64 l2)).setCell ⟨g, 4, none⟩ (.int .i64 u2)) g p D size l2 u2 := (Blk.set_ h 3 _).set_ 4 _
theorem LogAt.setU (h : LogAt w g p D size last used) (u2 : Int) : LogAt (w.setCell ⟨g, 4, none⟩ (.int .i64 u2)) g p D size last u2 := Blk.set_ h 4 _
/-- What has become of the world, but for the log itself. -/
structure OutG (g : Nat) (R R' : Nat → Nat) (w w' : World) : Prop where
  os : w'.os = w.os
  tape : w'.tape = w.tape
  output : w'.output = w.output
  size : w.heap.size ≤ w'.heap.size
  block : ∀ k, k < w.heap.size → R k = 0 → k ≠ g → w'.heap[k]? = w.heap[k]?
  old : ∀ k, k < w.heap.size → R k = 0 → R' k = 0
variable {R R' R'' : Nat → Nat} {w'' : World}
theorem OutG.refl (g : Nat) (R : Nat → Nat) (w : World) : OutG g R R w w := ⟨rfl, rfl, rfl, Nat.le_refl _, fun _ _ _ _ => rfl, fun _ _ h => h⟩
theorem OutG.of (h : Out R R' w w') : OutG g R R' w w' := ⟨h.os, h.tape, h.output, h.size, fun k hk h0 _ => h.block k hk h0, h.old⟩
theorem OutG.trans (h : OutG g R R' w w') (k : OutG g R' R'' w' w'') : OutG g R R'' w w'' :=
  ⟨k.os.trans h.os, k.tape.trans h.tape, k.output.trans h.output, Nat.le_trans h.size k.size,
   fun i hi hr hg => (k.block i (Nat.lt_of_lt_of_le hi h.size) (h.old i hi hr) hg).trans (h.block i hi hr hg),
   fun i hi hr => k.old i (Nat.lt_of_lt_of_le hi h.size) (h.old i hi hr)⟩
theorem OutG.then_ (h : OutG g R R' w w') (k : Below w'.heap.size w' w'') : OutG g R R' w w'' := h.trans (.of (.of_below k))
theorem OutG.set (g : Nat) (R : Nat → Nat) (w : World) (i : Nat) (u : Value) : OutG g R R w (w.setCell ⟨g, i, none⟩ u) :=
  ⟨rfl, rfl, rfl, by simp [World.setCell], fun k _ _ hk => Below.heap_setCell _ _ _ _ hk, fun _ _ h => h⟩
theorem OutG.below {B : Nat} (h : OutG g R R' w w') (hB : B ≤ w.heap.size) (hR : ∀ k, k < B → R k = 0) (hg : B ≤ g) : Below B w w' :=
  ⟨h.os, h.tape, h.output, h.size, fun k hk => h.block k (by omega) (hR k hk) (by omega)⟩
theorem OutG.blk {b : Nat} {t : TypeId} {cs : Array Value} (h : OutG g R R' w w') (hb : Blk w b t cs) (h0 : R b = 0) (hg : b ≠ g) : Blk w' b t cs := (h.block b hb.lt h0 hg).trans hb
theorem Dk.setG {B0 M : Nat} {d : Ds} (h : Dk B0 M w R p d) (h0 : R g = 0) (i : Nat) (u : Value) : Dk B0 M (w.setCell ⟨g, i, none⟩ u) R p d := by
  obtain ⟨A, h1, h2⟩ := h.ex
  exact ⟨⟨A, h1.same (fun j hj => ⟨Below.heap_setCell _ _ _ _ (by rintro rfl; exact hj h0), rfl⟩) (h1.inw.mono (by simp [World.setCell])) h1.low, h2⟩, h.wf⟩

set_option maxHeartbeats 1000000 in
theorem wpath_calls (n : Int) (h1 : -9223372036854775808 ≤ n) (h2 : n ≤ 9223372036854775807) (hD : D.size ≤ 1073741824) (P : ByteArray) (hP : P.data.toList = wP D.data.toList n) (w : World) (hL : LogAt w g p D size last used) (hT : PowTab w) (hg : 9 < w.heap.size) :
    Calls Tryz.prog 90 #[.pointer (some ⟨g, 0, none⟩), .int .i64 n] w fun e w' => e = .returned (.string P) ∧ Below w.heap.size w w' := by
  obtain ⟨N, hN⟩ : ∃ N : ByteArray, (⟨(nameT sS n).toArray⟩ : ByteArray) = N := ⟨_, rfl⟩
  have hNl : N.data.toList = nameT sS n := by rw [← hN]
  have hNs : N.size ≤ 9 := by
    rw [← text_size3, hNl]
    unfold nameT
    split
    · decide
    · rw [List.length_append, padN_len]; decide
  have hc1 := hL.c1
  have hgl := hL.lt
  have HN : Hid (∀ x : Later w, Calls Tryz.prog 36 #[.int .i64 n] x.w fun e w' => e = .returned (.string N) ∧ Below x.w.heap.size x.w w') := Lib.hid fun x => by rw [← hN]; exact wname_calls n h1 h2 x.w (hT.below hg x.h)
  have HP : Hid (D ++ ⟨#[47]⟩ ++ N = P) := Lib.hid (bytes_eq (by rw [hP]; simp [ByteArray.data_append, hNl, wP]))
  clear hN hNl hP hL hT hg
  go_enter Tryz.func90, Tryz.ntmps90
  go_upto_region 1 with fail
  refine wp_region_later (by kernel_rfl) (by kernel_rfl) ?_
  repeat (go_big_quiet_step ((go_at_call 36; exact quiet_later _ (HN.out _))))
  refine wpQuiet_nil ?_
  rintro w2 ⟨⟨_, hb2⟩, rfl⟩
  rw [HP.out]
  go_wp2_with fail
  go_ret
  exact ⟨rfl, hb2⟩
set_option maxHeartbeats 1000000 in
theorem segment_calls (w : World) (hL : LogAt w g p D size last used) :
    Calls Tryz.prog 35 #[.pointer (some ⟨g, 0, none⟩)] w fun e w' => e = .returned (.int .i64 last) ∧ w = w' := by
  have hc3 := hL.c3
  clear hL
  go_enter Tryz.func35, Tryz.ntmps35
  go_wp2_with fail
  go_ret
  exact ⟨rfl, rfl⟩
set_option maxHeartbeats 1000000 in
theorem segment_nil (w : World) :
    Calls Tryz.prog 35 #[.pointer none] w fun e w' => e = .returned (.int .i64 0) ∧ w = w' := by
  go_enter Tryz.func35, Tryz.ntmps35
  go_wp2_with fail
  go_ret
  exact ⟨rfl, rfl⟩
end
end Go.Proofs.YtfpgbhimgfdddaaGreatDoor

/-! ## WalWalksB -/
/- The walks of layer 16 (wal): a segment begun. -/
namespace Go.Proofs.YtfpgbhimgfdddaaGreatDoor
open Go.RowKit Go.Shelf Go.Sort
attribute [local go_sem ↓] Go.wp_at_zero Go.wp_at_succ
attribute [local go_sem] Later.cell Later.frozen

section
variable {B0 M p g : Nat} {a : Nat → Addr} {R R' : Nat → Nat} {d : Ds} {w w' : World} {D : ByteArray} {size last used : Int}
theorem Dk.cut (h : Dk B0 M w R p d) (hM : M ≤ 536870912) (hB : B0 ≤ w.heap.size) (hF : Fails B0 a w) (hF6 : Fail6 B0 a w) (S : ByteArray) (n : Nat) (hS : S.size ≤ 1073741824) (hn : n ≤ 1073741824) :
    Calls Tryz.prog 128 #[.pointer (some ⟨p, 0, none⟩), .string S, .int .i64 (n : Int)] w (DkOut a B0 (M + 1) R p (cutD d S.data.toList (n : Int)) w) := by
  obtain ⟨A, hc, rfl⟩ := h.ex
  exact (cut_calls S n w hc (h.wf.fit hM) hS hB hF hF6 (by omega) (by omega) (h.wf.nl hM) (h.wf.sl hM)).mono fun _ _ k => .of k.weak (h.wf.cut _ _)
theorem Dk.flip (h : Dk B0 M w R p d) (hM : M ≤ 536870912) (hB : B0 ≤ w.heap.size) (hF : Fails B0 a w) (hF6 : Fail6 B0 a w) (S : ByteArray) (k : Nat) (m : UInt8) (hS : S.size ≤ 1073741824) (hk : k ≤ 1073741824) :
    Calls Tryz.prog 37 #[.pointer (some ⟨p, 0, none⟩), .string S, .int .i64 (k : Int), .int .u8 m.toNat] w (DkOut a B0 (M + 1) R p (flipD d S.data.toList (k : Int) m) w) := by
  obtain ⟨A, hc, rfl⟩ := h.ex
  exact (flip_calls S k m w hc (h.wf.fit hM) hS hB hF hF6 (by omega) (by omega) (h.wf.nl hM)).mono fun _ _ k => .of k.weak (h.wf.flip _ _ _)
/-- An error's value that is nil. -/
theorem ErrW.z {a : Nat → Addr} {w : World} {R : Nat → Nat} {v : Value} (h : ErrW a w R 0 v) : v = .nilIface := h
/-- A log and its disk, and what both stand on. -/
structure WAt (B0 : Nat) (a : Nat → Addr) (M p g : Nat) (R : Nat → Nat) (D : ByteArray) (size last used : Int) (d : Ds) (w : World) : Prop where
  dk : Dk B0 M w R p d
  lg : LogAt w g p D size last used
  r0 : R g = 0
  gb : B0 ≤ g
  en : SEnv B0 a w
  f6 : Fail6 B0 a w
theorem WAt.below (h : WAt B0 a M p g R D size last used d w) (hC : SCon B0 a) (hb : Below w.heap.size w w') : WAt B0 a M p g R D size last used d w' := ⟨h.dk.below hb, h.lg.below hb, h.r0, h.gb, h.en.low hC hb, h.f6.below (hb.mono h.en.hb)⟩
theorem WAt.more {M' : Nat} (h : WAt B0 a M p g R D size last used d w) (hM : M ≤ M') : WAt B0 a M' p g R D size last used d w := ⟨h.dk.more hM, h.lg, h.r0, h.gb, h.en, h.f6⟩
theorem WAt.out {M' : Nat} {d' : Ds} (h : WAt B0 a M p g R D size last used d w) (hC : SCon B0 a) (hd : Dk B0 M' w' R' p d') (ho : Out R R' w w') : WAt B0 a M' p g R' D size last used d' w' :=
  ⟨hd, ho.blk h.lg h.r0, ho.old g h.lg.lt h.r0, h.gb, h.en.out hC h.dk ho, h.f6.below (ho.below h.en.hb h.dk.low)⟩
theorem WAt.set (h : WAt B0 a M p g R D size last used d w) (hC : SCon B0 a) (l2 u2 : Int) : WAt B0 a M p g R D size l2 u2 d ((w.setCell ⟨g, 3, none⟩ (.int .i64 l2)).setCell ⟨g, 4, none⟩ (.int .i64 u2)) :=
  ⟨(h.dk.setG h.r0 _ _).setG h.r0 _ _, h.lg.set _ _, h.r0, h.gb, h.en.below hC ((OutG.set g R w 3 _).trans (OutG.set g R _ 4 _) |>.below h.en.hb h.dk.low h.gb), h.f6.below ((OutG.set g R w 3 _).trans (OutG.set g R _ 4 _) |>.below h.en.hb h.dk.low h.gb)⟩
theorem WAt.setU (h : WAt B0 a M p g R D size last used d w) (hC : SCon B0 a) (u2 : Int) : WAt B0 a M p g R D size last u2 d (w.setCell ⟨g, 4, none⟩ (.int .i64 u2)) :=
  ⟨h.dk.setG h.r0 _ _, h.lg.setU _, h.r0, h.gb, h.en.below hC ((OutG.set g R w 4 _).below h.en.hb h.dk.low h.gb), h.f6.below ((OutG.set g R w 4 _).below h.en.hb h.dk.low h.gb)⟩
theorem WAt.path (h : WAt B0 a M p g R D size last used d w) (hC : SCon B0 a) (n : Int) (h1 : -9223372036854775808 ≤ n) (h2 : n ≤ 9223372036854775807) (hDs : D.size ≤ 1000) (P : ByteArray) (hP : P.data.toList = wP D.data.toList n) :
    ∀ x : Later w, Calls Tryz.prog 90 #[.pointer (some ⟨g, 0, none⟩), .int .i64 n] x.w fun e w' => e = .returned (.string P) ∧ Below x.w.heap.size x.w w' := fun x =>
  wpath_calls n h1 h2 (by omega) P hP x.w (h.lg.below x.h) (h.en.low hC x.h).pow (Nat.lt_of_lt_of_le hC.pow (h.en.low hC x.h).hb)
theorem wP_size {D P : ByteArray} {n : Int} (hP : P.data.toList = wP D.data.toList n) (hDs : D.size ≤ 1000) : P.size ≤ 1073741824 := by
  rw [← text_size3, hP]
  unfold wP nameT
  split
  · simp only [List.length_append, text_size3]; simp; omega
  · simp only [List.length_append, text_size3, padN_len]; simp [sS]; omega
theorem wP_bytes (D : ByteArray) (n : Int) : ∃ P : ByteArray, P.data.toList = wP D.data.toList n := ⟨⟨(wP D.data.toList n).toArray⟩, rfl⟩
set_option maxRecDepth 100000 in
set_option maxHeartbeats 4000000 in
theorem begin_calls (n : Nat) (hn : n ≤ 99999999) (hDs : D.size ≤ 1000) (w : World) (hA : WAt B0 a M p g R D size last used d w) (hM : M + 2 ≤ 536870912) (hC : SCon B0 a)
    (hcr : (createD d (wP D.data.toList (n : Int))).1 = 0) (hsn : (syncNamesD (createD d (wP D.data.toList (n : Int))).2).1 = 0) :
    Calls Tryz.prog 94 #[.pointer (some ⟨g, 0, none⟩), .int .i64 (n : Int)] w fun e w' => e = .returned .nilIface ∧ ∃ R', WAt B0 a (M + 2) p g R' D size (n : Int) 0 (beginD D.data.toList d (n : Int)) w' ∧ OutG g R R' w w' := by
  obtain ⟨P, hP⟩ := wP_bytes D (n : Int)
  have hPs := wP_size hP hDs
  have hc0 := hA.lg.c0
  have hgl := hA.lg.lt
  have HPA := Lib.hid (hA.path hC (n : Int) (by omega) (by omega) hDs P hP)
  obtain ⟨r1, hr1⟩ : ∃ r, createD d (wP D.data.toList (n : Int)) = r := ⟨_, rfl⟩
  have hbd : beginD D.data.toList d (n : Int) = (syncNamesD r1.2).2 := by unfold beginD; rw [hr1]
  rw [hr1] at hcr hsn
  rw [hbd]
  have HA := Lib.hid hA
  have HC := Lib.hid hC
  have HR1 := Lib.hid (⟨hr1, hcr, hsn, hP⟩ : _ ∧ _ ∧ _ ∧ _)
  obtain ⟨nz, hnz⟩ : ∃ z : Int, (n : Int) = z := ⟨_, rfl⟩
  rw [hnz] at HPA HR1 ⊢
  clear hA hC hr1 hcr hsn hP hbd hnz hn
  go_enter Tryz.func94, Tryz.ntmps94
  go_upto_region 1 with fail
  refine wp_region_later_tail 7 (by kernel_rfl) (by kernel_rfl) ?_
  simp only [List.take_succ_cons, List.take_zero, List.drop_succ_cons, List.drop_zero]
  repeat (go_big_quiet_step ((go_at_call 90; exact quiet_later _ (HPA.out _))))
  refine wpQuiet_nil ?_
  rintro w1 ⟨⟨w1, hb1⟩, rfl⟩
  have HA1 := Lib.hid (HA.out.below HC.out hb1)
  have HCR := Lib.hid (HA1.out.dk.create (by omega) HA1.out.en.hb HA1.out.en.e.f P hPs)
  rw [HR1.out.2.2.2, HR1.out.1] at HCR
  have HO1 : Hid (OutG g R R w w1) := Lib.hid (.of (.of_below hb1))
  clear hb1 hc0 hgl
  go_wp2_with fail
  refine HCR.out.mono ?_
  rintro e w2 ⟨v2, R2, rfl, hv2, hd2, ho2⟩
  rw [HR1.out.2.1] at hv2
  obtain rfl := hv2.z
  have HA2 := Lib.hid (HA1.out.out HC.out hd2 ho2)
  have HO2 := Lib.hid (HO1.out.trans (.of ho2))
  clear hv2 hd2 ho2
  have c3 := HA2.out.lg.c3
  have c4 := HA2.out.lg.c4
  have f3 : w2.frozen? ⟨g, 3, none⟩ = false := Blk.frozen HA2.out.lg 3
  have f4 : w2.frozen? ⟨g, 4, none⟩ = false := Blk.frozen HA2.out.lg 4
  go_upto_region 5 with fail
  obtain ⟨w3, hw3⟩ : ∃ x, (w2.setCell ⟨g, 3, none⟩ (.int .i64 nz)).setCell ⟨g, 4, none⟩ (.int .i64 0) = x := ⟨_, rfl⟩
  have HA3 : Hid (WAt B0 a (M + 1) p g R2 D size nz 0 r1.2 w3) := Lib.hid (by rw [← hw3]; exact HA2.out.set HC.out _ _)
  have HO3 : Hid (OutG g R R2 w w3) := Lib.hid (by rw [← hw3]; exact HO2.out.trans ((OutG.set g R2 w2 3 _).trans (OutG.set g R2 _ 4 _)))
  rw [hw3]
  clear c3 c4 f3 f4 hw3
  have c0 := HA3.out.lg.c0
  have HSN := Lib.hid (HA3.out.dk.syncNames (by omega) HA3.out.en.hb HA3.out.en.e.f)
  go_wp2_with fail
  refine HSN.out.mono ?_
  rintro e w4 ⟨v4, R4, rfl, hv4, hd4, ho4⟩
  rw [HR1.out.2.2.1] at hv4
  obtain rfl := hv4.z
  have HA4 := Lib.hid (HA3.out.out HC.out hd4 ho4)
  have HO4 := Lib.hid (HO3.out.trans (.of ho4))
  clear hv4 hd4 ho4 c0
  go_wp2_with fail
  go_ret
  exact ⟨rfl, R4, HA4.out, HO4.out⟩
end
end Go.Proofs.YtfpgbhimgfdddaaGreatDoor

/-! ## WalWalksC -/
/- The walks of layer 16 (wal): the number of a name, the segments of a directory. -/
namespace Go.Proofs.YtfpgbhimgfdddaaGreatDoor
open Go.RowKit Go.Shelf Go.Sort
attribute [local go_sem ↓] Go.wp_at_zero Go.wp_at_succ
attribute [local go_sem] Later.cell Later.frozen

set_option maxRecDepth 100000 in
set_option maxHeartbeats 1000000 in
theorem wnumber_calls (n : Nat) (h1 : 1 ≤ n) (h2 : n ≤ 99999999) (S : ByteArray) (hS : S.data.toList = nameT sS (n : Int)) (w : World) (hT : PowTab w) (hg : 9 < w.heap.size) :
    Calls Tryz.prog 133 #[.string S] w fun e w' => e = .returned (.int .i64 (n : Int)) ∧ Below w.heap.size w w' := by
  obtain ⟨X, hX⟩ : ∃ X : ByteArray, (⟨(Lib.trimPrefix S.data.toList (⟨#[115]⟩ : ByteArray).data.toList).toArray⟩ : ByteArray) = X := ⟨_, rfl⟩
  have hXl : X.data.toList = padN 8 n := by rw [← hX, hS]; exact trim_name h1 h2
  obtain ⟨Y, hY⟩ : ∃ Y : ByteArray, (⟨(Lib.trimLeftB X.data.toList 48).toArray⟩ : ByteArray) = Y := ⟨_, rfl⟩
  have hYl : Y.data.toList = Lib.decDigits n := by rw [← hY, hXl]; exact trim_pad h1 h2
  have hYs : Y.size ≤ 18 := by
    rw [← text_size3, hYl]
    have := (pad_dec 7 n (by omega)).1
    omega
  have hNS : (⟨(nameT sS (n : Int)).toArray⟩ : ByteArray) = S := bytes_eq (by rw [hS])
  have H1 := Lib.hid (fun w => Tryz.strings_TrimPrefix S ⟨#[115]⟩ w)
  have H2 := Lib.hid (fun w => Any.strings_TrimLeft_one Tryz.lays161 X 48 (by decide) w)
  have H3 := Lib.hid (fun w => Any.strconv_Atoi Tryz.lays172 Y (n : Int) hYs (by rw [hYl]; exact atoi_dec h1) w)
  have H4 := Lib.hid (fun (w' : World) (hb : Below w.heap.size w w') => wname_calls (n : Int) (by omega) (by omega) w' (hT.below hg hb))
  rw [hX] at H1
  rw [hY] at H2
  rw [hNS] at H4
  obtain ⟨nz, hnz⟩ : ∃ z : Int, (n : Int) = z := ⟨_, rfl⟩
  rw [hnz] at H3 H4 ⊢
  clear hX hXl hY hYl hYs hNS hS hT hg hnz h1 h2
  go_enter Tryz.func133, Tryz.ntmps133
  go_wp2_with fail
  refine (H1.out w).mono ?_
  rintro _ w1 ⟨rfl, rfl⟩
  go_wp2_with fail
  refine (H2.out w1).mono ?_
  rintro _ w2 ⟨rfl, rfl⟩
  go_wp2_with fail
  refine (H3.out w2).mono ?_
  rintro _ w3 ⟨rfl, t, rfl⟩
  have hb3 : Below w2.heap.size w2 (Lib.bytesWorld w2 (Tryz.lays172_ren.t 5) t) := Go.Joins.below_bytesWorld _ _ _ _ (Nat.le_refl _)
  obtain ⟨w3, hw3⟩ : ∃ x, Lib.bytesWorld w2 (Tryz.lays172_ren.t 5) t = x := ⟨_, rfl⟩
  rw [hw3] at hb3 ⊢
  clear hw3
  have HB3 := Lib.hid hb3
  have H5 := Lib.hid (H4.out w3 hb3)
  clear hb3
  go_wp2_with fail
  refine H5.out.mono ?_
  rintro _ w4 ⟨rfl, hb4⟩
  have HB4 := Lib.hid (then_ HB3.out hb4)
  clear hb4
  go_wp2_with fail
  go_ret
  exact ⟨rfl, HB4.out⟩

/-- The entries of a directory of segments. -/
def entSegs (l : List En) (ns : List Nat) : Prop := l.map (·.name) = ns.map fun n => nameT sS ((n : Nat) : Int)
/-- Ints as elements of a slice. -/
def natI (n : Nat) : Value := .int .i64 (n : Int)
def Nats (w : World) (A : Option Addr) (n : Nat) (l : List Nat) : Prop := Elems w w.heap.size 1 (fun x => [natI x]) A n l
section
variable {B0 M p g : Nat} {a : Nat → Addr} {R R' : Nat → Nat} {d : Ds} {w w' : World} {D : ByteArray} {size last used : Int}
theorem natI_flat : ∀ l : List Nat, l.map natI = l.flatMap fun x => [natI x]
  | [] => rfl
  | x :: l => by rw [List.map_cons, List.flatMap_cons, natI_flat l]; rfl
theorem LogAt.two (h : LogAt w g p D size last used) : w.cell? ⟨g, 0, none⟩ = some (.pointer (some ⟨p, 0, none⟩)) ∧ w.cell? ⟨g, 1, none⟩ = some (.string D) := ⟨h.c0, h.c1⟩
theorem wents_at {w : World} {A : Option Addr} {n : Nat} {l : List En} (h : Elems w w.heap.size 3 encE A n l) {i : Nat} (hi : i < n) : ∃ b off, A = some ⟨b, off, none⟩ ∧ b < w.heap.size ∧ w.cell? ⟨b, off + i * 3, none⟩ = some (txtV l[i]!.name) ∧ w.cell? ⟨b, off + i * 3 + 1, none⟩ = some (.bool l[i]!.dir) ∧ w.cell? ⟨b, off + i * 3 + 2, none⟩ = some (.int .i64 (l[i]!.size : Int)) := by
  obtain ⟨b, off, e, hb, hc⟩ := h.2 (by omega)
  have hl : i < l.length := by have : l.length = n := Elems.len h; omega
  have hx := hc i l[i]! (by rw [getElem!_pos l i hl, List.getElem?_eq_getElem hl])
  exact ⟨b, off, e, hb, by simpa using hx 0 _ rfl, by simpa using hx 1 _ rfl, by simpa using hx 2 _ rfl⟩
theorem Dk.listAt (h : Dk B0 M w R p d) (hM : M ≤ 536870912) (hB : B0 ≤ w.heap.size) (hF : Fails B0 a w) (S : ByteArray) (hS0 : S.data.toList ≠ []) (hS : S.size ≤ 1073741824) (l : List En) (hl : listD d S.data.toList = (l, 0)) :
    Calls Tryz.prog 29 #[.pointer (some ⟨p, 0, none⟩), .string S] w fun e w' => ∃ X c, e = .returned (.tuple #[.slice X l.length c, .nilIface]) ∧ Elems w' w'.heap.size 3 encE X l.length l ∧ Below w.heap.size w w' := by
  obtain ⟨A, hc, rfl⟩ := h.ex
  refine (list_dir (a := a) S hS0 w hc (h.wf.fit hM) hS hB hF (fun i => by have := h.wf.nl hM i; omega)).mono ?_
  rintro e w' ⟨v, u, rfl, h1, h2, h3⟩
  rw [hl] at h1 h2
  obtain rfl : u = .nilIface := h1
  obtain ⟨X, c, rfl, he, _, _⟩ := Elems.of_own (enc := encE) (xs := l) (fun _ _ => rfl) rfl h2 rfl
  exact ⟨X, c, rfl, he, h3⟩
set_option maxRecDepth 100000 in
set_option maxHeartbeats 8000000 in
theorem segments_calls (hDs : D.size ≤ 1000) (hDn : nameB D.data.toList = true) (w : World) (hA : WAt B0 a M p g R D size last used d w) (hM : M ≤ 536870912) (hC : SCon B0 a) (l : List En) (ns : List Nat) (hl : listD d D.data.toList = (l, 0)) (hns : entSegs l ns) (hr : ∀ n ∈ ns, 1 ≤ n ∧ n ≤ 99999999) (hz : ns.length ≤ 99999999) :
    Calls Tryz.prog 95 #[.pointer (some ⟨g, 0, none⟩)] w fun e w' => ∃ X c, e = .returned (.tuple #[.slice X ns.length c, .nilIface]) ∧ Nats w' X ns.length ns ∧ (∀ x, X = some x → w.heap.size ≤ x.block) ∧ Below w.heap.size w w' := by
  obtain ⟨i0, hi0, hz0, hz1, hz2⟩ := info_parts info_int3
  have hD0 : D.data.toList ≠ [] := by
    intro h
    rw [h] at hDn
    simp [nameB] at hDn
  have hc0 := hA.lg.c0
  have hc1 := hA.lg.c1
  have hgl := hA.lg.lt
  have HA := Lib.hid hA
  have HC := Lib.hid hC
  have HLI : Hid (∀ x : Later w, Calls Tryz.prog 29 #[.pointer (some ⟨p, 0, none⟩), .string D] x.w fun e w' => ∃ X c, e = .returned (.tuple #[.slice X l.length c, .nilIface]) ∧ Elems w' w'.heap.size 3 encE X l.length l ∧ Below x.w.heap.size x.w w') := Lib.hid fun x =>
    ((HA.out.below HC.out x.h).dk).listAt hM (HA.out.below HC.out x.h).en.hb (HA.out.below HC.out x.h).en.e.f D hD0 (by omega) l hl
  have hll : l.length = ns.length := by
    have := congrArg List.length hns
    simpa using this
  have HNM : Hid (∀ (i : Nat) (y : En), l[i]? = some y → ∃ n : Nat, ns[i]? = some n ∧ y.name = nameT sS (n : Int) ∧ 1 ≤ n ∧ n ≤ 99999999) := Lib.hid fun i y hy => by
    have hi : i < ns.length := by rw [← hll]; exact (List.getElem?_eq_some_iff.1 hy).1
    have h1 := congrArg (·[i]?) hns
    simp only [List.getElem?_map, hy, List.getElem?_eq_getElem hi, Option.map_some, Option.some.injEq] at h1
    exact ⟨ns[i], List.getElem?_eq_getElem hi, h1, hr _ (List.getElem_mem hi)⟩
  rw [hll] at HLI
  have HZ := Lib.hid hz
  have HLL := Lib.hid hll
  clear hA hC hl hns hr hDn hD0 hDs hll hM
  go_enter Tryz.func95, Tryz.ntmps95
  go_upto_region 1 with fail
  have hbd : Below w.heap.size w w.drew := (Below.refl _ _).drew
  have HL1 := Lib.hid (HLI.out ⟨w.drew, hbd⟩)
  dsimp only at HL1
  have HBD := Lib.hid hbd
  clear hbd
  have hq0 : LogAt w.drew g p D size last used := HA.out.lg.below HBD.out
  go_region_held3 (fun w' => w'.cell? ⟨g, 0, none⟩ = some (.pointer (some ⟨p, 0, none⟩)) ∧ w'.cell? ⟨g, 1, none⟩ = some (.string D)) (first | exact LogAt.two hq0 | exact LogAt.two hq2 | go_keep)
    ((go_at_call 29; refine HL1.out.mono ?_; rintro e w2 ⟨X, c, rfl, hx2, hb2⟩; have hq2 := LogAt.below hq0 hb2))
  clear hq0 hq2
  clear hc0 hc1 hgl
  have HX2 := Lib.hid hx2
  have HB2 := Lib.hid (HBD.out.trans (hb2.mono HBD.out.size))
  obtain ⟨n, hn⟩ : ∃ n, ns.length = n := ⟨_, rfl⟩
  have HN := Lib.hid hn
  rw [hn] at HX2 HLL ⊢
  have hz' : n ≤ 99999999 := by have := HZ.out; omega
  clear hx2 hb2 hn hz
  go_wp2_with fail
  go_loopg [6, 24] n (fun gh s6 s24 wr => ∃ (i : Nat) (A : Option Addr) (cc : Nat), i + gh = n ∧ s24 = .int .i64 (i : Int) ∧ s6 = .slice A i cc ∧ wr.ownsRow w2.heap.size 3 1 (.slice A i cc) i ((ns.take i).map natI) ∧ Below w2.heap.size w2 wr)
  case atStart => exact ⟨0, none, 0, by omega, rfl, rfl, World.ownsRow_nil _ _ _ _, Below.refl _ _⟩
  case round =>
    obtain ⟨i, A, cc, hig, rfl, rfl, hown, hB⟩ := hrel
    have HIG := Lib.hid hig
    have HB := Lib.hid hB
    have HOWN := Lib.hid hown
    clear hig hB hown
    by_cases hi : i < n
    · have el : decide ((i : Int) < (n : Int)) = true := by simp; omega
      have e0 : (i : Int) < (n : Int) := by omega
      have e1 : (0 : Int) ≤ (i : Int) := by omega
      have hi' : i < l.length := by rw [HLL.out]; exact hi
      obtain ⟨b, off, rfl, hbl, x0, x1, x2⟩ := wents_at ((HX2.out.below HB.out).more HB.out.size) hi
      obtain ⟨nm, hnm, hyn, hn1, hn2⟩ := HNM.out i _ (List.getElem?_eq_getElem hi')
      have hgi : l[i]! = l[i] := getElem!_pos l i hi'
      obtain ⟨N, hN⟩ : ∃ N : ByteArray, (⟨(l[i]!.name).toArray⟩ : ByteArray) = N := ⟨_, rfl⟩
      have hNl : N.data.toList = nameT sS (nm : Int) := by rw [← hN, ← hyn, hgi]
      have hNv : txtV l[i]!.name = .string N := by rw [← hN]; rfl
      obtain ⟨bd, hbd⟩ : ∃ b, l[i]!.dir = b := ⟨_, rfl⟩
      obtain ⟨sz, hsz⟩ : ∃ z : Int, (l[i]!.size : Int) = z := ⟨_, rfl⟩
      rw [hNv] at x0
      rw [hbd] at x1
      rw [hsz] at x2
      clear hgi hN hyn hNv hbd hsz
      have HNl := Lib.hid (⟨hNl, hn1, hn2, hnm⟩ : _ ∧ _ ∧ _ ∧ _)
      clear hNl hn1 hn2 hnm
      go_upto_region 6 with fail
      obtain ⟨U, hU⟩ : ∃ Q, wr.heap.size = Q := ⟨_, rfl⟩
      obtain ⟨w7, hw7⟩ : ∃ X, wr.alloc (.cells #[.string N, .bool bd, .int .i64 sz] 167) = X := ⟨_, rfl⟩
      have hb7 : Below wr.heap.size wr w7 := by rw [← hw7]; exact (Below.refl _ _).alloc (Nat.le_refl _) _
      have kx : Blk w7 U 167 #[.string N, .bool bd, .int .i64 sz] := by rw [← hw7, ← hU]; exact Blk.new wr _ _
      rw [hw7, hU]
      have m0 : w7.cell? ⟨U, 0, none⟩ = some (.string N) := kx.cell 0
      have HB7 := Lib.hid (HB.out.trans (hb7.mono HB.out.size))
      have HW7 := Lib.hid hb7
      clear hw7 hU kx hb7 x0 x1 x2
      have HE7 := Lib.hid ((HA.out.below HC.out (HB2.out.trans (HB7.out.mono HB2.out.size))).en)
      have HNU := Lib.hid (wnumber_calls nm HNl.out.2.1 HNl.out.2.2.1 N HNl.out.1 w7 HE7.out.pow (Nat.lt_of_lt_of_le HC.out.pow HE7.out.hb))
      go_wp2_with fail
      refine HNU.out.mono ?_
      rintro _ w8 ⟨rfl, hb8⟩
      have hown8 : w8.ownsRow w2.heap.size 3 1 (.slice A i cc) i ((ns.take i).map natI) := ownsRow.same HOWN.out fun k hk => (HW7.out.trans (hb8.mono HW7.out.size)).block k (World.ownsRow.lt HOWN.out k hk).2
      have hb8' : Below w2.heap.size w2 w8 := HB7.out.trans (hb8.mono HB7.out.size)
      have HN1 := HNl.out.2.1
      have dk : decide ((0 : Int) < (nm : Int)) = true := by simp; omega
      obtain ⟨nz, hnz⟩ : ∃ z : Int, (nm : Int) = z := ⟨_, rfl⟩
      rw [hnz] at dk ⊢
      have HNZ := Lib.hid hnz
      clear hb8 hnz HN1 m0
      go_wp2_with (at_builtin; refine wpList_append_own_at _ rfl _ _ 58 rfl w2.heap.size 3 i0 (.int .i64 0) 1 8 Tryz.underlying58 hi0 hz0 hz1 hz2 rfl (by decide) _ _ _ rfl (hown8.alloc _) ⟨w8.heap.size, 0, none⟩ 1 1 [.int .i64 nz] rfl rfl ?p1 ?p2 ?p3 ?p4 ?p5 ?_)
      case p1 => exact news_of_blk (l := [.int .i64 nz]) (Blk.new w8 _ _)
      case p2 => intro u hu; rw [List.mem_singleton.1 hu]; rfl
      case p3 => unfold maxLen; omega
      case p4 => omega
      case p5 => have := hb8'.size; simp; omega
      intro v' w9 hown9 hgrow _ _
      have hall : w8.grownBy w9 (Value.slice A i cc).ownBlock := (World.grownBy_alloc w8 _ _).trans hgrow
      have hB9 : Below w2.heap.size w2 w9 := hb8'.trans ⟨hall.os, hall.tape, hall.output, hall.size, fun k hk => hall.block k (by have := hb8'.size; omega) (fun e => by have := (World.ownsRow.lt hown8 k e.symm).1; omega)⟩
      have e1 : (ns.take (i + 1)).map natI = (ns.take i).map natI ++ [.int .i64 nz] := by
        rw [List.take_add_one, HNl.out.2.2.2, List.map_append, ← HNZ.out]
        rfl
      replace hown9 : w9.ownsRow w2.heap.size 3 1 v' (i + 1) ((ns.take (i + 1)).map natI) := by
        rw [e1, List.map_take]
        exact hown9
      obtain ⟨A2, c2, rfl, _, _, _⟩ := Elems.of_own (enc := fun x => [natI x]) (xs := ns.take (i + 1)) (fun _ _ => rfl) (natI_flat _) hown9 (by rw [List.length_take, HN.out]; omega)
      have HO9 := Lib.hid hown9
      have HB9 := Lib.hid hB9
      clear hown9 hB9 hall hgrow hown8 hb8' e1 dk
      go_wp2_with fail
      go_roundg (gk - 1)
      case measure => have := HIG.out; omega
      case rel => exact ⟨i + 1, A2, c2, by have := HIG.out; omega, by go_num, rfl, HO9.out, HB9.out⟩
    · have el : decide ((i : Int) < (n : Int)) = false := by simp; omega
      have hi3 : i = n := by have := HIG.out; omega
      subst hi3
      go_wp2_with fail
      go_ret2
      have htk : ns.take i = ns := List.take_of_length_le (by rw [HN.out]; exact Nat.le_refl _)
      have ho := HOWN.out
      rw [htk] at ho
      obtain ⟨A2, c2, e2, h2, h3, _⟩ := Elems.of_own (enc := fun x => [natI x]) (xs := ns) (fun _ _ => rfl) (natI_flat ns) ho HN.out
      injection e2 with e3 e4 e5
      subst e3
      rw [HN.out]
      exact ⟨A, cc, rfl, h2, fun x hx => by have := h3 x hx; have := HB2.out.size; omega, HB2.out.trans (HB.out.mono HB2.out.size)⟩
end
end Go.Proofs.YtfpgbhimgfdddaaGreatDoor

/-! ## WalWalksD -/
/- The walks of layer 16 (wal): a segment read. -/
namespace Go.Proofs.YtfpgbhimgfdddaaGreatDoor
open Go.RowKit Go.Shelf Go.Sort
attribute [local go_sem ↓] Go.wp_at_zero Go.wp_at_succ
attribute [local go_sem] Later.cell Later.frozen

section
variable {B0 M p g : Nat} {a : Nat → Addr} {R R' : Nat → Nat} {d : Ds} {w w' : World} {D : ByteArray} {size last used : Int}
theorem info_strW : (Tryz.prog.info? 9).map (fun i => (i.zero, i.size, i.bytes)) = some (some (.string ⟨#[]⟩), 1, 16) := by kernel_rfl
theorem results_tmp4 {fn : Func} {t u v x : Tmp} (h : fn.results = #[.tmp t, .tmp u, .tmp v, .tmp x]) (tmps : Array Value) (P : Program) (w : World) :
    (results fn tmps).run P w = .ok (.tuple #[tmps.getD t undef, tmps.getD u undef, tmps.getD v undef, tmps.getD x undef]) w := by
  simp [results, h]
theorem Dk.allAt (h : Dk B0 M w R p d) (hM : M ≤ 536870912) (hB : B0 ≤ w.heap.size) (hF : Fails B0 a w) (S : ByteArray) (hS : S.size ≤ 1073741824) (t : Txt) (ht : allD d S.data.toList = (t, 0)) :
    Calls Tryz.prog 59 #[.pointer (some ⟨p, 0, none⟩), .string S] w fun e w' => e = .returned (.tuple #[txtV t, .nilIface]) ∧ Below w.heap.size w w' := by
  obtain ⟨A, hc, rfl⟩ := h.ex
  refine (all3_calls (a := a) S w hc (h.wf.fit hM) hS hB hF).mono ?_
  rintro e w' ⟨v, rfl, h1, h2⟩
  rw [ht] at h1 ⊢
  obtain rfl : v = .nilIface := h1
  exact ⟨rfl, h2⟩
set_option maxRecDepth 100000 in
set_option maxHeartbeats 8000000 in
theorem read_calls (n : Nat) (hn : n ≤ 99999999) (hDs : D.size ≤ 1000) (w : World) (hA : WAt B0 a M p g R D size last used d w) (hM : M ≤ 536870912) (hC : SCon B0 a) (t : Txt) (ht : allD d (wP D.data.toList (n : Int)) = (t, 0)) (hzt : t.length ≤ 1073741824) :
    Calls Tryz.prog 127 #[.pointer (some ⟨g, 0, none⟩), .int .i64 (n : Int)] w fun e w' => ∃ X c, e = .returned (.tuple #[.slice X (rdT t).1.length c, .int .i64 ((rdT t).2.1 : Int), .int .i64 ((rdT t).2.2 : Int), .nilIface]) ∧ Strs w' X (rdT t).1.length (rdT t).1 ∧ (X = none → c = 0) ∧ (∀ x, X = some x → w.heap.size ≤ x.block) ∧ Below w.heap.size w w' := by
  obtain ⟨i0, hi0, hz0, hz1, hz2⟩ := info_parts info_strW
  obtain ⟨P, hP⟩ := wP_bytes D (n : Int)
  have hPs := wP_size hP hDs
  have hc0 := hA.lg.c0
  have hgl := hA.lg.lt
  have HPA := Lib.hid (hA.path hC (n : Int) (by omega) (by omega) hDs P hP)
  obtain ⟨T, hT⟩ : ∃ T : ByteArray, (⟨t.toArray⟩ : ByteArray) = T := ⟨_, rfl⟩
  have hTl : T.data.toList = t := by rw [← hT]
  have hTv : txtV t = .string T := by rw [← hT]; rfl
  have HA := Lib.hid hA
  have HC := Lib.hid hC
  have HAL : Hid (∀ w', Below w.heap.size w w' → Calls Tryz.prog 59 #[.pointer (some ⟨p, 0, none⟩), .string P] w' fun e w'' => e = .returned (.tuple #[.string T, .nilIface]) ∧ Below w'.heap.size w' w'') := Lib.hid fun w' h => by
    rw [← hTv]
    exact ((HA.out.below HC.out h).dk).allAt hM (HA.out.below HC.out h).en.hb (HA.out.below HC.out h).en.e.f P hPs t (by rw [hP]; exact ht)
  subst hTl
  have hTz : T.size ≤ 1073741824 := by rw [← text_size3]; exact hzt
  obtain ⟨nz, hnz⟩ : ∃ z : Int, (n : Int) = z := ⟨_, rfl⟩
  rw [hnz] at HPA ⊢
  have HTZ := Lib.hid hTz
  clear hA hC hP hPs ht hzt hT hTv hnz hn hDs hM hTz
  obtain ⟨r, hr⟩ : ∃ r, rdT T.data.toList = r := ⟨_, rfl⟩
  have HR0 : Hid (readsT T.data.toList T.size 0 = r) := Lib.hid (by rw [← hr]; rfl)
  rw [hr]
  clear hr
  go_enter Tryz.func127, Tryz.ntmps127
  go_upto_region 1 with fail
  have hbd : Below w.heap.size w w.drew := (Below.refl _ _).drew
  have HP0 := Lib.hid (HPA.out ⟨w.drew, hbd⟩)
  dsimp only at HP0
  have HBD := Lib.hid hbd
  have hq0 : LogAt w.drew g p D size last used := HA.out.lg.below hbd
  clear hbd
  go_region_held3 (fun w' => w'.cell? ⟨g, 0, none⟩ = some (.pointer (some ⟨p, 0, none⟩))) (first | exact LogAt.c0 hq0 | exact LogAt.c0 hq1 | exact LogAt.c0 hq2 | go_keep)
    (first
      | (go_at_call 90; refine HP0.out.mono ?_; rintro e w1 ⟨rfl, hb1⟩; have hq1 := LogAt.below hq0 hb1)
      | (go_at_call 59; refine (HAL.out w1 (HBD.out.trans (hb1.mono HBD.out.size))).mono ?_; rintro e w2 ⟨rfl, hb2⟩; have hq2 := LogAt.below hq1 hb2))
  have HB1 := Lib.hid (HBD.out.trans (hb1.mono HBD.out.size))
  clear hc0 hgl hq0 hq1 hq2 hb1
  have HB2 := Lib.hid (HB1.out.trans (hb2.mono HB1.out.size))
  have HA2 := Lib.hid (HA.out.below HC.out HB2.out)
  clear hb2
  go_wp2_with fail
  go_loopg [4, 5, 7] T.size (fun f s4 s5 s7 wr => ∃ (i : Nat) (o : List Txt) (A : Option Addr) (cc : Nat), i ≤ T.size ∧ T.size ≤ i + f ∧ o.length ≤ i ∧ s4 = .slice A o.length cc ∧ s5 = .int .i64 (i : Int) ∧ s7 = .nilIface ∧ wr.ownsRow w2.heap.size 9 1 (.slice A o.length cc) o.length (o.map txtV) ∧ (o ++ (readsT T.data.toList f i).1, (readsT T.data.toList f i).2) = r ∧ Below w2.heap.size w2 wr)
  case atStart => exact ⟨0, [], none, 0, by omega, by omega, Nat.le_refl _, rfl, rfl, rfl, World.ownsRow_nil _ _ _ _, HR0.out, Below.refl _ _⟩
  case round =>
    obtain ⟨i, o, A, cc, h1, h2, h3, rfl, rfl, rfl, hown, hrd, hB⟩ := hrel
    have HI := Lib.hid (⟨h1, h2, h3⟩ : _ ∧ _ ∧ _)
    have HRD := Lib.hid hrd
    have HB := Lib.hid hB
    have HOWN := Lib.hid hown
    obtain ⟨m, hm⟩ : ∃ m, o.length = m := ⟨_, rfl⟩
    have HM := Lib.hid hm
    rw [hm] at HOWN ⊢
    clear hrd hB hown hm h1 h2 h3
    by_cases hi : i < T.size
    · have el : decide ((i : Int) < (T.size : Int)) = true := by simp; omega
      have e0 : (i : Int) < (T.size : Int) := by omega
      obtain ⟨f, rfl⟩ : ∃ f, gk = f + 1 := ⟨gk - 1, by have := HI.out; omega⟩
      have HUN := Lib.hid (unframe_calls T i HI.out.1 (by have := HTZ.out; omega) wr (HA2.out.en.low HC.out HB.out).nib)
      by_cases he : (unframeT T.data.toList i).2.2 = 0
      · have hg := readsT_good (f := f) (show i < T.data.toList.length by rw [text_size3]; exact hi) he
        have hnx := unframe_next he
        rw [text_size3] at hnx
        have HRD2 := Lib.hid HRD.out
        rw [hg] at HRD2
        obtain ⟨u, hu⟩ : ∃ u, unframeT T.data.toList i = u := ⟨_, rfl⟩
        rw [hu] at HUN he hnx HRD2
        obtain ⟨y, nx, ee⟩ := u
        dsimp only at HUN he hnx HRD2
        subst he
        have HNX := Lib.hid hnx
        obtain ⟨Y, hY⟩ : ∃ Y : ByteArray, (⟨y.toArray⟩ : ByteArray) = Y := ⟨_, rfl⟩
        have hYv : txtV y = .string Y := by rw [← hY]; rfl
        rw [hYv] at HUN
        have HY := Lib.hid hYv
        clear hg hu hY hYv hnx
        go_wp2_with fail
        refine HUN.out.mono ?_
        rintro _ w5 ⟨rfl, hb5⟩
        have hown5 := ownsRow.same HOWN.out fun k hk => hb5.block k (World.ownsRow.lt HOWN.out k hk).2
        have hb5' : Below w2.heap.size w2 w5 := HB.out.trans (hb5.mono HB.out.size)
        clear hb5
        go_wp2_with (at_builtin; refine wpList_append_own_at _ rfl _ _ 78 rfl w2.heap.size 9 i0 (.string ⟨#[]⟩) 1 16 Tryz.underlying78 hi0 hz0 hz1 hz2 rfl (by decide) _ _ _ rfl (hown5.alloc _) ⟨w5.heap.size, 0, none⟩ 1 1 [.string Y] rfl rfl ?p1 ?p2 ?p3 ?p4 ?p5 ?_)
        case p1 => exact news_of_blk (l := [.string Y]) (Blk.new w5 _ _)
        case p2 => intro u hu; rw [List.mem_singleton.1 hu]; rfl
        case p3 => unfold maxLen; have := HTZ.out; have := HI.out; have := HM.out; omega
        case p4 => have := HTZ.out; have := HI.out; have := HM.out; omega
        case p5 => have := hb5'.size; simp; omega
        intro v' w6 hown6 hgrow _ _
        have hall : w5.grownBy w6 (Value.slice A m cc).ownBlock := (World.grownBy_alloc w5 _ _).trans hgrow
        have hB6 : Below w2.heap.size w2 w6 := hb5'.trans ⟨hall.os, hall.tape, hall.output, hall.size, fun k hk => hall.block k (by have := hb5'.size; omega) (fun e => by have := (World.ownsRow.lt hown5 k e.symm).1; omega)⟩
        have e1 : (o ++ [y]).map txtV = o.map txtV ++ [.string Y] := by rw [List.map_append, ← HY.out]; rfl
        rw [← e1] at hown6
        obtain ⟨A2, c2, rfl, _, _, _⟩ := Strs.of_own hown6 (by rw [List.length_append, HM.out]; rfl)
        have HO6 := Lib.hid hown6
        have HB6 := Lib.hid hB6
        clear hown6 hB6 hall hgrow hown5 hb5' e1
        go_wp2_with fail
        go_roundg f
        case measure => omega
        case rel =>
          have hl : (o ++ [y]).length = m + 1 := by rw [List.length_append, HM.out]; rfl
          refine ⟨nx, o ++ [y], A2, c2, HNX.out.2.1, by have := HI.out; have := HNX.out; omega, by rw [hl]; have := HI.out; have := HM.out; have := HNX.out; omega, by rw [hl], rfl, rfl, by rw [hl]; exact HO6.out, ?_, HB6.out⟩
          rw [← HRD2.out]
          simp
      · have hg := readsT_bad (f := f) (show i < T.data.toList.length by rw [text_size3]; exact hi) he
        have HRD2 := Lib.hid HRD.out
        rw [hg] at HRD2
        obtain ⟨u, hu⟩ : ∃ u, unframeT T.data.toList i = u := ⟨_, rfl⟩
        rw [hu] at HUN he HRD2
        obtain ⟨y, nx, ee⟩ := u
        dsimp only at HUN he HRD2
        obtain ⟨ez, hez⟩ : ∃ z : Int, (ee : Int) = z := ⟨_, rfl⟩
        have z1 : ez ≠ 0 := by omega
        have z2 : (ez == 0) = false := by simpa using z1
        have z3 : (ez != 0) = true := by simpa using z1
        have z4 : decide (ez = 0) = false := by simpa using z1
        rw [hez] at HUN
        have HEZ := Lib.hid hez
        obtain ⟨Y, hY⟩ : ∃ Y : ByteArray, (⟨y.toArray⟩ : ByteArray) = Y := ⟨_, rfl⟩
        have hYv : txtV y = .string Y := by rw [← hY]; rfl
        rw [hYv] at HUN
        clear hg hu hY hYv hez he
        go_wp2_with fail
        refine HUN.out.mono ?_
        rintro _ w5 ⟨rfl, hb5⟩
        have HO5 := Lib.hid (ownsRow.same HOWN.out fun k hk => hb5.block k (World.ownsRow.lt HOWN.out k hk).2)
        have HB5 : Hid (Below w2.heap.size w2 w5) := Lib.hid (HB.out.trans (hb5.mono HB.out.size))
        clear hb5
        go_wp2_with fail
        (try simp only [Exit.inBlock, Exit.then])
        refine bodyPost_ret (results_tmp4 rfl _ _ _) rfl ?_
        have hr2 := HRD2.out
        rw [List.append_nil] at hr2
        obtain rfl := hr2.symm
        have ho := HO5.out
        rw [← HM.out] at ho ⊢
        obtain ⟨A2, c2, e2, h2, h3, h4⟩ := Strs.of_own ho rfl
        injection e2 with e3 e4 e5
        subst e3 e5
        refine ⟨A, cc, by rw [HEZ.out]; rfl, h2, ?_, fun x hx => by have := h3 x hx; have := HB2.out.size; omega, HB2.out.trans (HB5.out.mono HB2.out.size)⟩
        rintro rfl
        rcases ho.2 with ⟨h5, _⟩ | ⟨_, _, _, h5, _⟩ <;> injection h5 with h6 h7 h8
        cases h6
    · have el : decide ((i : Int) < (T.size : Int)) = false := by simp; omega
      have hg := readsT_end (f := gk) (show ¬ i < T.data.toList.length by rw [text_size3]; exact hi)
      have HRD2 := Lib.hid HRD.out
      rw [hg] at HRD2
      clear hg
      go_wp2_with fail
      (try simp only [Exit.inBlock, Exit.then])
      refine bodyPost_ret (results_tmp4 rfl _ _ _) rfl ?_
      have hr2 := HRD2.out
      rw [List.append_nil] at hr2
      obtain rfl := hr2.symm
      have ho := HOWN.out
      rw [← HM.out] at ho ⊢
      obtain ⟨A2, c2, e2, h2, h3, h4⟩ := Strs.of_own ho rfl
      injection e2 with e3 e4 e5
      subst e3 e5
      refine ⟨A, cc, rfl, h2, ?_, fun x hx => by have := h3 x hx; have := HB2.out.size; omega, HB2.out.trans (HB.out.mono HB2.out.size)⟩
      rintro rfl
      rcases ho.2 with ⟨h5, _⟩ | ⟨_, _, _, h5, _⟩ <;> injection h5 with h6 h7 h8
      cases h6
end
end Go.Proofs.YtfpgbhimgfdddaaGreatDoor
