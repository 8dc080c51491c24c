/- Layer 16 (wal): what each call of a log does, told of the log's payloads and segments. -/
import Derived.Test.YtfpgbhimgfdddaaGreatDoorWalWalksK
import Derived.Test.YtfpgbhimgfdddaaGreatDoorWalPlain4
set_option linter.unusedVariables false
set_option linter.unusedSimpArgs false
namespace Go.Proofs.YtfpgbhimgfdddaaGreatDoor
open Go.RowKit Go.Shelf Go.Sort
attribute [local go_sem ↓] Go.wp_at_zero Go.wp_at_succ

theorem dropL_eq (D : Txt) (before last : Int) : ∀ (l : List Nat) (d : Ds), dropL D before last l d = dropsL D before last l d
  | [], _ => rfl
  | n :: l, d => by
    have e : (if (n : Int) < before ∧ (n : Int) < last then (removeD d (wP D (n : Int))).2 else d) = if goB before last n = true then (removeD d (wP D (n : Int))).2 else d := by
      unfold goB
      simp only [Bool.and_eq_true, decide_eq_true_eq]
    rw [dropL, dropsL, dropL_eq D before last l, e]
/-- A log at g on the disk at p: its payloads. -/
structure WL (B0 : Nat) (a : Nat → Addr) (K M p g : Nat) (R : Nat → Nat) (D : ByteArray) (size : Int) (m : WM) (d : Ds) (w : World) : Prop where
  wat : WAt B0 a M p g R D size (m.n : Int) (m.used : Int) d w
  ok : m.Ok
  rr : ∃ l i C, WalR D.data.toList m l i C d
  cap : d.cap = K
  us : usedD d ≤ K
  kb : K ≤ 67108864
section
variable {B0 K M M' p g : Nat} {a : Nat → Addr} {R R' : Nat → Nat} {d : Ds} {w w' : World} {D : ByteArray} {size : Int} {m : WM}
theorem WL.more (h : WL B0 a K M p g R D size m d w) (hM : M ≤ M') : WL B0 a K M' p g R D size m d w := ⟨h.wat.more hM, h.ok, h.rr, h.cap, h.us, h.kb⟩
theorem WL.below (h : WL B0 a K M p g R D size m d w) (hC : SCon B0 a) (hb : Below w.heap.size w w') : WL B0 a K M p g R D size m d w' := ⟨h.wat.below hC hb, h.ok, h.rr, h.cap, h.us, h.kb⟩
theorem WL.name (h : WL B0 a K M p g R D size m d w) : nameB D.data.toList = true := by
  obtain ⟨l, i, C, hr⟩ := h.rr
  exact hr.w.nm
theorem WL.rng (h : WL B0 a K M p g R D size m d w) : 1 ≤ m.n ∧ m.n ≤ 99999999 := by
  obtain ⟨l, i, C, hr⟩ := h.rr
  exact hr.rng
theorem WL.segR (h : WL B0 a K M p g R D size m d w) : ∀ n ∈ m.segs.map (·.1), 1 ≤ n ∧ n ≤ 99999999 := by
  intro n hn
  obtain ⟨s, hs, rfl⟩ := List.mem_map.1 hn
  have hr := h.rng
  rcases List.mem_append.1 hs with hs | hs
  · have := h.ok.lt s hs; omega
  · obtain rfl := List.mem_singleton.1 hs
    exact hr
theorem asc_from (k : Nat) : ∀ (l : List Nat) (x : Nat), l.Pairwise (· < ·) → (∀ n ∈ l, x < n ∧ n ≤ k) → l.length ≤ k - x
  | [], _, _, _ => Nat.zero_le _
  | y :: l, x, hp, hr => by
    obtain ⟨h1, h2⟩ := List.pairwise_cons.1 hp
    have hy := hr y (List.mem_cons_self ..)
    have := asc_from k l y h2 (fun n hn => ⟨h1 n hn, (hr n (List.mem_cons_of_mem _ hn)).2⟩)
    rw [List.length_cons]
    omega
theorem asc_len (l : List Nat) (k : Nat) (hp : l.Pairwise (· < ·)) (hr : ∀ n ∈ l, 1 ≤ n ∧ n ≤ k) : l.length ≤ k :=
  asc_from k l 0 hp fun n hn => ⟨(hr n hn).1, (hr n hn).2⟩
theorem WL.segL (h : WL B0 a K M p g R D size m d w) : (m.segs.map (·.1)).length ≤ 99999999 := by
  refine asc_len _ _ ?_ h.segR
  unfold WM.segs
  rw [List.map_append, List.pairwise_append]
  refine ⟨?_, by simp, ?_⟩
  · rw [List.pairwise_map]
    exact h.ok.asc
  · intro a ha b hb
    obtain ⟨s, hs, rfl⟩ := List.mem_map.1 ha
    have := (h.ok.lt s hs).2
    simp at hb
    omega
theorem wm_new_ok {n : Nat} (h : 1 ≤ n) : (⟨[], n, []⟩ : WM).Ok := ⟨(fun s hs => by cases hs), List.Pairwise.nil, h, fun s hs p hp => (by
  obtain rfl := List.mem_singleton.1 hs
  cases hp)⟩
theorem newD_le (cap : Int) : (newD cap).cap ≤ 67108864 := by
  show (min cap 67108864).toNat ≤ 67108864
  omega
/-- Open of a log on a new disk. -/
theorem wl_new (hDs : D.size ≤ 1000) (hDn : nameB D.data.toList = true) (from_ : Nat) (hf1 : 1 ≤ from_) (hf : from_ ≤ 99999999) (hs1 : 1 ≤ size) (cap : Int) (w : World) (hD : Dk B0 M w R p (newD cap)) (hM : M + 4 ≤ 536870912) (hC : SCon B0 a) (hE : SEnv B0 a w) (h6 : Fail6 B0 a w) :
    Calls Tryz.prog 32 #[.pointer (some ⟨p, 0, none⟩), .string D, .int .i64 (from_ : Int), .int .i64 size] w fun e w' => ∃ g R' d', e = .returned (.tuple #[.pointer (some ⟨g, 0, none⟩), .slice none 0 0, .nilIface]) ∧
      w.heap.size ≤ g ∧ WL B0 a (newD cap).cap (M + 4) p g R' D size ⟨[], from_, []⟩ d' w' ∧ usedD d' = 0 ∧ Out R R' w w' := by
  obtain ⟨d1, d2, h1, h2, h3, h4, h5, ⟨i, C, h6b⟩, h7⟩ := wal_new hDn from_ hf1 hf cap
  refine (open_new hDs hDn from_ hf1 hf hs1 w hD hM hC hE h6 d1 d2 h1 h2 h3 h4 h5).mono ?_
  rintro e w' ⟨g, R', rfl, k1, k2, k3⟩
  have hu : usedD (beginD D.data.toList d2 (from_ : Int)) = 0 := by rw [h6b.used2]; rfl
  exact ⟨g, R', _, rfl, k1, ⟨k2, wm_new_ok hf1, ⟨_, i, C, h6b⟩, h7, by rw [hu]; exact Nat.zero_le _, newD_le cap⟩, hu, k3⟩
/-- Append of a payload. -/
theorem wl_append (S : ByteArray) (hS0 : 0 < S.size) (hS1 : S.size ≤ 1048576) (hs1 : 1 ≤ size) (hs2 : size ≤ 9223372036854775807) (hDs : D.size ≤ 1000) (w : World) (h : WL B0 a K M p g R D size m d w) (hM : M + S.size + 20 ≤ 536870912) (hC : SCon B0 a)
    (hcap : usedD d + S.size + 9 ≤ K) (hn : m.n + 1 ≤ 99999999) :
    Calls Tryz.prog 34 #[.pointer (some ⟨g, 0, none⟩), .string S] w fun e w' => e = .returned .nilIface ∧ ∃ R' d', WL B0 a K (M + S.size + 13) p g R' D size (m.app size S.data.toList) d' w' ∧ usedD d' = usedD d + S.size + 9 ∧ OutG g R R' w w' := by
  obtain ⟨l, i, C, hr⟩ := h.rr
  have hne : S.data.toList ≠ [] := by
    intro e
    have := congrArg List.length e
    rw [text_size3] at this
    simp only [List.length_nil] at this
    omega
  have hfl : (frameT S.data.toList).length = S.size + 9 := by rw [frameT_len, text_size3]
  have hu : m.used ≤ 67108864 := by
    have h1 := hr.used
    have h2 := h.us
    have h3 := h.kb
    show (framesT m.ps).length ≤ _
    omega
  have hfinal : ∀ m1 : WM, (m1.put S.data.toList).used = m1.used + S.size + 9 := by
    intro m1
    show (framesT (m1.ps ++ [S.data.toList])).length = _
    rw [framesT_snoc, List.length_append, hfl]
    rfl
  by_cases hfull : m.full size (S.data.toList.length + 9) = true
  · have hf2 : 0 < m.used ∧ size - ((S.size + 9 : Nat) : Int) < (m.used : Int) := by
      unfold WM.full at hfull
      rw [text_size3] at hfull
      simpa using hfull
    obtain ⟨b1, b2, ⟨C1, b3⟩, b4⟩ := hr.begin_ hn
    have hub : usedD (beginD D.data.toList d ((m.n + 1 : Nat) : Int)) = usedD d := by
      rw [b3.used2, hr.used2]
      have e0 : m.begin_.segs = m.segs ++ [(m.n + 1, ([] : List Txt))] := rfl
      rw [e0, List.map_append, List.sum_append]
      rfl
    obtain ⟨p1, p2, ⟨C2, p3⟩, p4⟩ := b3.put S.data.toList (by rw [hub, b4, h.cap, hfl]; omega)
    refine (append_full S hS0 hS1 m.n m.used h.rng.2 (by omega) hs1 hs2 hDs w h.wat hM hC hf2.1 hf2.2 hn b1 b2 _ rfl p1 p2).mono ?_
    rintro e w' ⟨rfl, R', k1, k2⟩
    have happ : m.app size S.data.toList = m.begin_.put S.data.toList := by
      unfold WM.app
      rw [if_pos hfull]
    have hu2 : (m.begin_.put S.data.toList).used = 0 + S.size + 9 := hfinal m.begin_
    have hud : usedD (putW D.data.toList (beginD D.data.toList d ((m.n + 1 : Nat) : Int)) ((m.n + 1 : Nat) : Int) S.data.toList) = usedD d + S.size + 9 := by
      have e1 := p3.used2
      have e2 := b3.used2
      rw [hub] at e2
      have e3 : ((m.begin_.put S.data.toList).segs.map fun s => (framesT s.2).length).sum = (m.begin_.segs.map fun s => (framesT s.2).length).sum + (S.size + 9) := by
        show (((m.begin_.init ++ [(m.begin_.n, m.begin_.ps ++ [S.data.toList])]).map fun s => (framesT s.2).length)).sum = ((m.begin_.init ++ [(m.begin_.n, m.begin_.ps)]).map fun s => (framesT s.2).length).sum + _
        rw [List.map_append, List.map_append, List.sum_append, List.sum_append]
        simp only [List.map_cons, List.map_nil, List.sum_cons, List.sum_nil, framesT_snoc, List.length_append, hfl]
        omega
      have e4 : m.begin_.n = m.n + 1 := rfl
      rw [e4] at e1
      omega
    refine ⟨rfl, R', _, ?_, hud, k2⟩
    rw [happ]
    refine ⟨?_, h.ok.begin_.put hne (by rw [text_size3]; exact hS1), ⟨_, _, _, p3⟩, p4.trans (b4.trans h.cap), by rw [hud]; omega, h.kb⟩
    rw [hu2]
    exact k1
  · have hnf : ¬ (0 < m.used ∧ size - ((S.size + 9 : Nat) : Int) < (m.used : Int)) := by
      intro hf
      apply hfull
      unfold WM.full
      rw [text_size3]
      simpa using hf
    obtain ⟨p1, p2, ⟨C2, p3⟩, p4⟩ := hr.put S.data.toList (by rw [h.cap, hfl]; omega)
    refine (append_on S hS0 hS1 m.n m.used h.rng.2 (by omega) hs1 hs2 hDs w h.wat hM hC hnf p1 p2).mono ?_
    rintro e w' ⟨rfl, R', k1, k2⟩
    have happ : m.app size S.data.toList = m.put S.data.toList := by
      unfold WM.app
      rw [if_neg hfull]
    have hu2 : (m.put S.data.toList).used = m.used + S.size + 9 := hfinal m
    have hud : usedD (putW D.data.toList d (m.n : Int) S.data.toList) = usedD d + S.size + 9 := by
      have e1 := p3.used2
      have e2 := hr.used2
      have e3 : ((m.put S.data.toList).segs.map fun s => (framesT s.2).length).sum = (m.segs.map fun s => (framesT s.2).length).sum + (S.size + 9) := by
        show (((m.init ++ [(m.n, m.ps ++ [S.data.toList])]).map fun s => (framesT s.2).length)).sum = ((m.init ++ [(m.n, m.ps)]).map fun s => (framesT s.2).length).sum + _
        rw [List.map_append, List.map_append, List.sum_append, List.sum_append]
        simp only [List.map_cons, List.map_nil, List.sum_cons, List.sum_nil, framesT_snoc, List.length_append, hfl]
        omega
      omega
    refine ⟨rfl, R', _, ?_, hud, k2⟩
    rw [happ]
    refine ⟨?_, h.ok.put hne (by rw [text_size3]; exact hS1), ⟨_, _, _, p3⟩, p4.trans h.cap, by rw [hud]; omega, h.kb⟩
    rw [hu2]
    exact k1
/-- Rotate. -/
theorem wl_rotate (hDs : D.size ≤ 1000) (w : World) (h : WL B0 a K M p g R D size m d w) (hM : M + 2 ≤ 536870912) (hC : SCon B0 a) (hn : m.n + 1 ≤ 99999999) :
    Calls Tryz.prog 42 #[.pointer (some ⟨g, 0, none⟩)] w fun e w' => e = .returned (.tuple #[.int .i64 ((m.rot.n : Nat) : Int), .nilIface]) ∧ ∃ R' d', WL B0 a K (M + 2) p g R' D size m.rot d' w' ∧ usedD d' = usedD d ∧ OutG g R R' w w' := by
  obtain ⟨l, i, C, hr⟩ := h.rr
  by_cases hu : m.used = 0
  · have e : m.rot = m := by unfold WM.rot; rw [if_pos hu]
    have hl := h.wat.lg
    rw [hu] at hl
    refine (rotate_same w hl).mono ?_
    rintro e' w' ⟨rfl, rfl⟩
    rw [e]
    exact ⟨rfl, R, d, h.more (by omega), rfl, OutG.refl _ _ _⟩
  · have e : m.rot = m.begin_ := by unfold WM.rot; rw [if_neg hu]
    obtain ⟨b1, b2, ⟨C1, b3⟩, b4⟩ := hr.begin_ hn
    have hub : usedD (beginD D.data.toList d ((m.n + 1 : Nat) : Int)) = usedD d := by
      rw [b3.used2, hr.used2]
      have e0 : m.begin_.segs = m.segs ++ [(m.n + 1, ([] : List Txt))] := rfl
      rw [e0, List.map_append, List.sum_append]
      rfl
    refine (rotate_on m.n m.used hn (by omega) hDs w h.wat hM hC b1 b2).mono ?_
    rintro e' w' ⟨rfl, R', k1, k2⟩
    rw [e]
    exact ⟨rfl, R', _, ⟨k1, h.ok.begin_, ⟨_, _, _, b3⟩, b4.trans h.cap, by rw [hub]; exact h.us, h.kb⟩, hub, k2⟩
theorem WL.ents (h : WL B0 a K M p g R D size m d w) : ∃ le, listD d D.data.toList = (le, 0) ∧ entSegs le (m.segs.map (·.1)) := by
  obtain ⟨l, i, C, hr⟩ := h.rr
  obtain ⟨h1, h2⟩ := hr.list
  refine ⟨(listD d D.data.toList).1, Prod.ext rfl h1, ?_⟩
  unfold entSegs
  rw [h2, List.map_map]
  rfl
/-- Drop. -/
theorem wl_drop (before : Int) (hDs : D.size ≤ 1000) (w : World) (h : WL B0 a K M p g R D size m d w) (hM : M + 100000010 ≤ 536870912) (hC : SCon B0 a) :
    Calls Tryz.prog 43 #[.pointer (some ⟨g, 0, none⟩), .int .i64 before] w fun e w' => e = .returned .nilIface ∧ ∃ R' d', WL B0 a K (M + m.segs.length + 1) p g R' D size (m.drop before) d' w' ∧ usedD d' ≤ usedD d ∧ OutG g R R' w w' := by
  obtain ⟨l, i, C, hr⟩ := h.rr
  obtain ⟨le, hl, hns⟩ := h.ents
  obtain ⟨d1, d2, ⟨l', d3⟩, d4⟩ := hr.drop h.ok before
  have hlen : (m.segs.map (·.1)).length = m.segs.length := List.length_map ..
  have hsl := h.segL
  refine (drop_calls before hDs h.name w h.wat (m.segs.map (·.1)) (by omega) hC le hl hns h.segR hsl (fun k n hk hb1 hb2 => ?_) (by rw [dropL_eq]; exact d2)).mono ?_
  · rw [dropL_eq]
    exact d1 k n hk (by unfold goB; rw [decide_eq_true hb1, decide_eq_true hb2]; rfl)
  · rintro e w' ⟨rfl, R', k1, k2⟩
    rw [dropL_eq, hlen] at k1
    have hud : usedD (syncNamesD (dropsL D.data.toList before (m.n : Int) (m.segs.map (·.1)) d)).2 ≤ usedD d := by
      rw [d3.used2, hr.used2]
      show (((m.init.filter fun s => !decide ((s.1 : Int) < before)) ++ [(m.n, m.ps)]).map fun s => (framesT s.2).length).sum ≤ ((m.init ++ [(m.n, m.ps)]).map fun s => (framesT s.2).length).sum
      rw [List.map_append, List.map_append, List.sum_append, List.sum_append]
      refine Nat.add_le_add_right ?_ _
      generalize m.init = L
      induction L with
      | nil => exact Nat.le_refl _
      | cons x L ih =>
        rw [List.filter_cons]
        split
        · rw [List.map_cons, List.map_cons, List.sum_cons, List.sum_cons]
          omega
        · rw [List.map_cons, List.sum_cons]
          omega
    exact ⟨rfl, R', _, ⟨k1, h.ok.drop before, ⟨_, _, _, d3⟩, d4.trans h.cap, by have := h.us; omega, h.kb⟩, hud, k2⟩
/-- Open of a log that is there. -/
theorem wl_open (g0 : Nat) (hDs : D.size ≤ 1000) (hs1 : 1 ≤ size) (w : World) (hD : Dk B0 M w R p d) (hok : m.Ok) (hrr : ∃ l i C, WalR D.data.toList m l i C d) (hcap : d.cap = K) (hus : usedD d ≤ K) (hkb : K ≤ 67108864) (hM : M + 4 ≤ 536870912) (hC : SCon B0 a) (hE : SEnv B0 a w) (h6 : Fail6 B0 a w) :
    Calls Tryz.prog 32 #[.pointer (some ⟨p, 0, none⟩), .string D, .int .i64 1, .int .i64 size] w fun e w' => ∃ g X c R', e = .returned (.tuple #[.pointer (some ⟨g, 0, none⟩), .slice X m.texts.length c, .nilIface]) ∧ Strs w' X m.texts.length m.texts ∧
      w.heap.size ≤ g ∧ (∀ x, X = some x → w.heap.size ≤ x.block ∧ R' x.block = 0) ∧ WL B0 a K (M + 4) p g R' D size m d w' ∧ Out R R' w w' := by
  obtain ⟨l, i, C, hr⟩ := hrr
  have hsum : ∀ s ∈ m.segs, (framesT s.2).length ≤ 67108864 := fun s hs => by
    have := sum_mem hs
    rw [← hr.used2] at this
    omega
  have hCn : ∀ n ∈ m.segs.map (·.1), ∃ s ∈ m.segs, s.1 = n ∧ C n = framesT s.2 := fun n hn => by
    obtain ⟨s, hs, rfl⟩ := List.mem_map.1 hn
    refine ⟨s, hs, rfl, ?_⟩
    rcases List.mem_append.1 hs with hs | hs
    · exact hr.head s hs
    · obtain rfl := List.mem_singleton.1 hs
      exact hr.last
  have hrd : ∀ s ∈ m.segs, rdT (framesT s.2) = (s.2, (framesT s.2).length, 0) := fun s hs => rdT_frames s.2 (hok.ne s hs)
  have hgen : ∀ L : List (Nat × List Txt), (∀ s ∈ L, (rdT (C s.1)).1 = s.2) → ((L.map (·.1)).flatMap fun n => (rdT (C n)).1) = L.flatMap (·.2) := by
    intro L
    induction L with
    | nil => intro _; rfl
    | cons x L ih =>
      intro hL
      rw [List.map_cons, List.flatMap_cons, List.flatMap_cons, hL x (List.mem_cons_self ..), ih fun s hs => hL s (List.mem_cons_of_mem _ hs)]
  have hCs : ∀ s ∈ m.segs, C s.1 = framesT s.2 := fun s hs => by
    rcases List.mem_append.1 hs with hs | hs
    · exact hr.head s hs
    · obtain rfl := List.mem_singleton.1 hs
      exact hr.last
  have htx : ((m.segs.map (·.1)).flatMap fun n => (rdT (C n)).1) = m.texts := hgen m.segs fun s hs => by rw [hCs s hs, hrd s hs]
  have htl : m.texts.length ≤ 1073741824 := by
    have := segs_count m.segs
    rw [← hr.used2] at this
    show (m.segs.flatMap (·.2)).length ≤ _
    omega
  have esg : m.segs.map (·.1) = m.init.map (·.1) ++ [m.n] := by unfold WM.segs; rw [List.map_append]; rfl
  have hlist := hr.list
  have hns : entSegs (listD d D.data.toList).1 (m.init.map (·.1) ++ [m.n]) := by
    unfold entSegs
    rw [hlist.2, ← esg, List.map_map]
    rfl
  have hsr : ∀ n ∈ m.init.map (·.1) ++ [m.n], 1 ≤ n ∧ n ≤ 99999999 := fun n hn => by
    have hrg := hr.rng
    rcases List.mem_append.1 hn with hn | hn
    · obtain ⟨s, hs, rfl⟩ := List.mem_map.1 hn
      have := hok.lt s hs
      omega
    · obtain rfl := List.mem_singleton.1 hn
      exact hrg
  have hsl : (m.init.map (·.1) ++ [m.n]).length ≤ 99999999 := by
    refine asc_len _ _ ?_ hsr
    rw [List.pairwise_append]
    refine ⟨?_, by simp, ?_⟩
    · rw [List.pairwise_map]
      exact hok.asc
    · intro a ha b hb
      obtain ⟨s, hs, rfl⟩ := List.mem_map.1 ha
      have := (hok.lt s hs).2
      simp at hb
      omega
  have hlast : (m.n, m.ps) ∈ m.segs := List.mem_append_right _ (List.mem_singleton.2 rfl)
  have hrl : rdT (C m.n) = (m.ps, (framesT m.ps).length, 0) := by
    rw [hr.last]
    exact hrd _ hlast
  refine (open_there true (fun u v g R1 w1 w2 => v = .nilIface ∧ ∃ X c n R', u = .slice X n c ∧ Strs w2 X n m.texts ∧ (∀ x, X = some x → w1.heap.size ≤ x.block ∧ R' x.block = 0) ∧ WAt B0 a (M + 1 + 2) p g R' D size (m.n : Int) (m.used : Int) d w2 ∧ OutG g R1 R' w1 w2) hDs 1 (by decide) (by decide) hs1 w hD hM hC hE h6 hr.w.mkdir_again ?_).mono ?_
  · intro w' g R1 hw
    refine (recover_good hDs hr.w.nm 1 w' hw (by omega) hC (listD d D.data.toList).1 (Prod.ext rfl hlist.1) (m.init.map (·.1)) m.n hns hsr hsl C (fun n hn => ?_) (fun n hn => ?_) (by rw [← esg, htx]; exact htl) (fun n hn => by have := hsr n hn; omega) (fun n hn => ?_) (fun h => absurd (by rw [hrl]) h)).mono ?_
    · rw [← esg] at hn
      obtain ⟨s, hs, rfl⟩ := List.mem_map.1 hn
      rw [hCs s hs]
      exact hr.all hs
    · rw [← esg] at hn
      obtain ⟨s, hs, rfl⟩ := List.mem_map.1 hn
      rw [hCs s hs]
      exact hsum s hs
    · obtain ⟨s, hs, rfl⟩ := List.mem_map.1 hn
      rw [hr.head s hs, hrd s (List.mem_append_left _ hs)]
    · rintro e w2 ⟨X, c, n, R', rfl, k1, k2, k3, k4⟩
      rw [← esg, htx] at k1
      rw [hrl] at k3
      have hm0 : mendD D.data.toList d m.n (m.ps, (framesT m.ps).length, 0) = d := by unfold mendD; rw [if_pos rfl]
      rw [hm0] at k3
      exact ⟨_, _, rfl, fun _ => rfl, (fun h => by cases h), rfl, X, c, n, R', rfl, k1, k2, k3, k4⟩
  · rintro e w' ⟨g, u, v, R1, w1, rfl, hg, ⟨rfl, X, c, n, R', rfl, k1, k2, k3, k4⟩, ho, hs⟩
    have hn : n = m.texts.length := (Elems.len k1).symm
    subst hn
    exact ⟨g, X, c, R', rfl, k1, hg, fun x hx => ⟨Nat.le_trans hs (k2 x hx).1, (k2 x hx).2⟩, ⟨k3.more (by omega), hok, ⟨l, i, C, hr⟩, hcap, hus, hkb⟩, k4.out ho hg⟩
end
end Go.Proofs.YtfpgbhimgfdddaaGreatDoor
