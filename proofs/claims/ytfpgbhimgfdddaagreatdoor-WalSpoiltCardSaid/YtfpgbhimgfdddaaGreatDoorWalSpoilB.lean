/- Layer 16 (wal): Open of a log whose segment's byte is turned. -/
import Derived.Test.YtfpgbhimgfdddaaGreatDoorWax04
import Derived.Test.YtfpgbhimgfdddaaGreatDoorWalSpoilA
set_option linter.unusedVariables false
set_option linter.unusedSimpArgs false
namespace Go.Proofs.YtfpgbhimgfdddaaGreatDoor
open Go.RowKit Go.Shelf Go.Sort
attribute [local go_sem ↓] Go.wp_at_zero Go.wp_at_succ
section
variable {B0 K M M' p g : Nat} {a : Nat → Addr} {R R' : Nat → Nat} {d d' : Ds} {w w' : World} {D : ByteArray} {size : Int} {m : WM} {l : List Sg} {i : Nat} {C C' : Nat → Txt}
theorem spoil_list (hr : WalR D.data.toList m l i C d) (hw : WalD D.data.toList (l ++ [⟨m.n, i⟩]) C' d') : (listD d' D.data.toList).2 = 0 ∧ entSegs (listD d' D.data.toList).1 (m.init.map (·.1) ++ [m.n]) := by
  have e : (l ++ [(⟨m.n, i⟩ : Sg)]).map (·.n) = m.init.map (·.1) ++ [m.n] := by rw [List.map_append, hr.nums]; rfl
  rw [hw.list]
  refine ⟨rfl, ?_⟩
  unfold entSegs
  rw [← e, List.map_map, List.map_map]
  rfl
theorem spoil_all (hr : WalR D.data.toList m l i C d) (hw : WalD D.data.toList (l ++ [⟨m.n, i⟩]) C' d') : ∀ n ∈ m.init.map (·.1) ++ [m.n], allD d' (wP D.data.toList (n : Int)) = (C' n, 0) := by
  intro n hn
  have e : (l ++ [(⟨m.n, i⟩ : Sg)]).map (·.n) = m.init.map (·.1) ++ [m.n] := by rw [List.map_append, hr.nums]; rfl
  rw [← e] at hn
  obtain ⟨x, hx, rfl⟩ := List.mem_map.1 hn
  exact hw.all hx
theorem spoil_rng (hok : m.Ok) (hr : WalR D.data.toList m l i C d) : (∀ n ∈ m.init.map (·.1) ++ [m.n], 1 ≤ n ∧ n ≤ 99999999) ∧ (m.init.map (·.1) ++ [m.n]).length ≤ 99999999 := by
  have hsr : ∀ n ∈ m.init.map (·.1) ++ [m.n], 1 ≤ n ∧ n ≤ 99999999 := fun n hn => by
    have hrg := hr.rng
    rcases List.mem_append.1 hn with hn | hn
    · obtain ⟨s, hs, rfl⟩ := List.mem_map.1 hn
      have := hok.lt s hs
      omega
    · obtain rfl := List.mem_singleton.1 hn
      exact hrg
  refine ⟨hsr, asc_len _ _ ?_ hsr⟩
  rw [List.pairwise_append]
  refine ⟨?_, by simp, ?_⟩
  · rw [List.pairwise_map]
    exact hok.asc
  · intro a ha b hb
    obtain ⟨s, hs, rfl⟩ := List.mem_map.1 ha
    have := (hok.lt s hs).2
    simp at hb
    omega
theorem spoil_reads (hok : m.Ok) (hr : WalR D.data.toList m l i C d) {s : Nat × List Txt} (hs : s ∈ m.segs) (he : C' s.1 = C s.1) : rdT (C' s.1) = (s.2, (framesT s.2).length, 0) := by
  rw [he, (hr.at_ hs).2]
  exact rdT_frames s.2 (hok.ne s hs)
theorem spoil_len (hr : WalR D.data.toList m l i C d) (hus : usedD d ≤ 67108864) {s : Nat × List Txt} (hs : s ∈ m.segs) : (C s.1).length ≤ 67108864 := by
  rw [(hr.at_ hs).2]
  have := sum_mem hs
  rw [← hr.used2] at this
  omega
/-- What is read, in all, is no more than what the log held. -/
theorem spoil_count (hok : m.Ok) (hr : WalR D.data.toList m l i C d) {n : Nat} (hbad : rdT (C' n) = ([], 0, 22)) (hC : ∀ j, j ≠ n → C' j = C j) : ∀ L : List (Nat × List Txt), (∀ s ∈ L, s ∈ m.segs) → ((L.map (·.1)).flatMap fun n => (rdT (C' n)).1).length ≤ (L.flatMap (·.2)).length
  | [], _ => Nat.le_refl _
  | s :: L, h => by
    have ih := spoil_count hok hr hbad hC L fun x hx => h x (List.mem_cons_of_mem _ hx)
    rw [List.map_cons, List.flatMap_cons, List.flatMap_cons, List.length_append, List.length_append]
    by_cases hs : s.1 = n
    · rw [hs, hbad]
      simp only [List.length_nil]
      omega
    · rw [spoil_reads hok hr (h s (List.mem_cons_self ..)) (hC _ hs)]
      dsimp only
      omega
theorem spoil_texts (hok : m.Ok) (hr : WalR D.data.toList m l i C d) (hC : ∀ j, j ≠ m.n → C' j = C j) : ∀ L : List (Nat × List Txt), (∀ s ∈ L, s ∈ m.init) → ((L.map (·.1)).flatMap fun n => (rdT (C' n)).1) = L.flatMap (·.2)
  | [], _ => rfl
  | s :: L, h => by
    have hs := h s (List.mem_cons_self ..)
    rw [List.map_cons, List.flatMap_cons, List.flatMap_cons, spoil_texts hok hr hC L fun x hx => h x (List.mem_cons_of_mem _ hx), spoil_reads hok hr (List.mem_append_left _ hs) (hC _ (by have := (hok.lt s hs).2; omega))]
/-- Open where a segment ahead of the last one is spoilt. -/
theorem wl_open_bad (hDs : D.size ≤ 1000) (hs1 : 1 ≤ size) (w : World) (hD : Dk B0 M w R p d') (hok : m.Ok) (hr : WalR D.data.toList m l i C d) (hw : WalD D.data.toList (l ++ [⟨m.n, i⟩]) C' d') (hus : usedD d ≤ 67108864)
    {n : Nat} {j : Nat} (hbad : rdT (C' n) = ([], 0, 22)) (hlen : (C' n).length ≤ 67108864) (hC : ∀ j, j ≠ n → C' j = C j) (hj : (m.segs.map (·.1))[j]? = some n) (hj2 : j + 1 < m.segs.length) (hM : M + 4 ≤ 536870912) (hCn : SCon B0 a) (hE : SEnv B0 a w) (h6 : Fail6 B0 a w) :
    Calls Tryz.prog 32 #[.pointer (some ⟨p, 0, none⟩), .string D, .int .i64 1, .int .i64 size] w fun e w' => ∃ q P R', e = .returned (.tuple #[.pointer none, .slice none 0 0, .iface 51 (.pointer (some ⟨q, 0, none⟩))]) ∧ P.data.toList = wP D.data.toList (n : Int) ∧
      Blk w' q 54 #[.string P, .int .i64 22] ∧ w.heap.size ≤ q ∧ Out R R' w w' := by
  have esg : m.segs.map (·.1) = m.init.map (·.1) ++ [m.n] := by unfold WM.segs; rw [List.map_append]; rfl
  obtain ⟨hl1, hl2⟩ := spoil_list hr hw
  obtain ⟨hsr, hsl⟩ := spoil_rng hok hr
  rw [esg] at hj
  have hnd := hok.nodup
  rw [esg] at hnd
  have hmem : ∀ k ∈ m.init.map (·.1) ++ [m.n], ∃ s ∈ m.segs, s.1 = k := fun k hk => by
    rw [← esg] at hk
    obtain ⟨s, hs, e⟩ := List.mem_map.1 hk
    exact ⟨s, hs, e⟩
  refine (open_there false (fun u v g R1 w1 w2 => ∃ q P R', v = .iface 51 (.pointer (some ⟨q, 0, none⟩)) ∧ P.data.toList = wP D.data.toList (n : Int) ∧ Blk w2 q 54 #[.string P, .int .i64 22] ∧ w1.heap.size ≤ q ∧ OutG g R1 R' w1 w2) hDs 1 (by decide) (by decide) hs1 w hD hM hCn hE h6 hw.mkdir_again ?_).mono ?_
  · intro w' g R1 hwa
    refine (recover_bad hDs hr.w.nm 1 w' hwa (by omega) hCn (listD d' D.data.toList).1 (Prod.ext rfl hl1) (m.init.map (·.1) ++ [m.n]) hl2 hsr hsl C' (spoil_all hr hw) (fun k hk => ?_) ?_ (fun k hk => by have := hsr k hk; omega) j n hj (by rw [← esg, List.length_map]; exact hj2) (fun y k hy hk => ?_) (by rw [hbad]; decide)).mono ?_
    · obtain ⟨s, hs, rfl⟩ := hmem k hk
      by_cases e : s.1 = n
      · rw [e]; exact hlen
      · rw [hC _ e]
        exact spoil_len hr hus hs
    · have h1 := spoil_count hok hr hbad hC m.segs fun s hs => hs
      rw [esg] at h1
      have h2 := segs_count m.segs
      rw [← hr.used2] at h2
      omega
    · have e : k ≠ n := by
        rintro rfl
        obtain ⟨p1, p2⟩ := List.getElem?_eq_some_iff.1 hk
        obtain ⟨p3, p4⟩ := List.getElem?_eq_some_iff.1 hj
        have := (List.pairwise_iff_getElem.1 hnd) y j p1 p3 hy
        exact this (p2.trans p4.symm)
      obtain ⟨s, hs, rfl⟩ := hmem k (List.mem_of_getElem? hk)
      rw [spoil_reads hok hr hs (hC _ e)]
    · rintro e w2 ⟨q, P, R2, rfl, k1, k2, k3, k4⟩
      rw [hbad] at k2
      exact ⟨_, _, rfl, (fun h => by cases h), fun _ => ⟨_, _, rfl⟩, q, P, R2, rfl, k1, k2, k3, k4⟩
  · rintro e w' ⟨g, u, v, R1, w1, rfl, hg, ⟨q, P, R2, rfl, k1, k2, k3, k4⟩, ho, hs⟩
    exact ⟨q, P, R2, rfl, k1, k2, Nat.le_trans hs k3, k4.out ho hg⟩
/-- Open where the last segment's payload is spoilt. -/
theorem wl_open_torn (hDs : D.size ≤ 1000) (hs1 : 1 ≤ size) (w : World) (hD : Dk B0 M w R p d') (hok : m.Ok) (hr : WalR D.data.toList m l i C d) (hw : WalD D.data.toList (l ++ [⟨m.n, i⟩]) C' d') (hcap : d'.cap = K) (hus : usedD d ≤ K) (hkb : K ≤ 67108864)
    (hbad : rdT (C' m.n) = ([], 0, 22)) (hlen : (C' m.n).length ≤ 67108864) (hC : ∀ j, j ≠ m.n → C' j = C j) (hM : M + 4 ≤ 536870912) (hCn : SCon B0 a) (hE : SEnv B0 a w) (h6 : Fail6 B0 a w) :
    Calls Tryz.prog 32 #[.pointer (some ⟨p, 0, none⟩), .string D, .int .i64 1, .int .i64 size] w fun e w' => ∃ g X c R' d2, e = .returned (.tuple #[.pointer (some ⟨g, 0, none⟩), .slice X (m.init.flatMap (·.2)).length c, .nilIface]) ∧ Strs w' X (m.init.flatMap (·.2)).length (m.init.flatMap (·.2)) ∧
      w.heap.size ≤ g ∧ (∀ x, X = some x → w.heap.size ≤ x.block ∧ R' x.block = 0) ∧ WL B0 a K (M + 4) p g R' D size ⟨m.init, m.n, []⟩ d2 w' ∧ Out R R' w w' := by
  have esg : m.segs.map (·.1) = m.init.map (·.1) ++ [m.n] := by unfold WM.segs; rw [List.map_append]; rfl
  obtain ⟨hl1, hl2⟩ := spoil_list hr hw
  obtain ⟨hsr, hsl⟩ := spoil_rng hok hr
  obtain ⟨c1, c2, c3, c4⟩ := hr.mend hok hw hC
  have hmem : ∀ k ∈ m.init.map (·.1) ++ [m.n], ∃ s ∈ m.segs, s.1 = k := fun k hk => by
    rw [← esg] at hk
    obtain ⟨s, hs, e⟩ := List.mem_map.1 hk
    exact ⟨s, hs, e⟩
  have htx : ((m.init.map (·.1) ++ [m.n]).flatMap fun n => (rdT (C' n)).1) = m.init.flatMap (·.2) := by
    rw [List.flatMap_append, spoil_texts hok hr hC m.init fun s hs => hs]
    simp [hbad]
  obtain ⟨d2, hd2⟩ : ∃ d2, (syncD (cutD d' (wP D.data.toList (m.n : Int)) (0 : Nat)).2 (wP D.data.toList (m.n : Int))).2 = d2 := ⟨_, rfl⟩
  rw [hd2] at c3 c4
  have hmd : mendD D.data.toList d' m.n (rdT (C' m.n)) = d2 := by
    rw [hbad]
    unfold mendD
    rw [if_neg (by decide)]
    exact hd2
  refine (open_there true (fun u v g R1 w1 w2 => v = .nilIface ∧ ∃ X c n R', u = .slice X n c ∧ Strs w2 X n (m.init.flatMap (·.2)) ∧ (∀ x, X = some x → w1.heap.size ≤ x.block ∧ R' x.block = 0) ∧ WAt B0 a (M + 1 + 2) p g R' D size (m.n : Int) ((0 : Nat) : Int) d2 w2 ∧ OutG g R1 R' w1 w2) hDs 1 (by decide) (by decide) hs1 w hD hM hCn hE h6 hw.mkdir_again ?_).mono ?_
  · intro w' g R1 hwa
    refine (recover_good hDs hr.w.nm 1 w' hwa (by omega) hCn (listD d' D.data.toList).1 (Prod.ext rfl hl1) (m.init.map (·.1)) m.n hl2 hsr hsl C' (spoil_all hr hw) (fun k hk => ?_) ?_ (fun k hk => by have := hsr k hk; omega) (fun k hk => ?_) (fun _ => ?_)).mono ?_
    · obtain ⟨s, hs, rfl⟩ := hmem k hk
      by_cases e : s.1 = m.n
      · rw [e]; exact hlen
      · rw [hC _ e]
        exact spoil_len hr (by omega) hs
    · have h1 := spoil_count hok hr hbad hC m.segs fun s hs => hs
      rw [esg] at h1
      have h2 := segs_count m.segs
      rw [← hr.used2] at h2
      omega
    · obtain ⟨s, hs, rfl⟩ := List.mem_map.1 hk
      rw [spoil_reads hok hr (List.mem_append_left _ hs) (hC _ (by have := (hok.lt s hs).2; omega))]
    · rw [hbad]
      exact ⟨c1, c2⟩
    · rintro e w2 ⟨X, c, n, R', rfl, k1, k2, k3, k4⟩
      rw [htx] at k1
      rw [hmd, hbad] at k3
      exact ⟨_, _, rfl, fun _ => rfl, (fun h => by cases h), rfl, X, c, n, R', rfl, k1, k2, k3, k4⟩
  · rintro e w' ⟨g, u, v, R1, w1, rfl, hg, ⟨rfl, X, c, n, R', rfl, k1, k2, k3, k4⟩, ho, hs⟩
    have hn : n = (m.init.flatMap (·.2)).length := (Elems.len k1).symm
    subst hn
    obtain ⟨C2, hr2⟩ := c3
    refine ⟨g, X, c, R', d2, rfl, k1, hg, fun x hx => ⟨Nat.le_trans hs (k2 x hx).1, (k2 x hx).2⟩, ⟨k3.more (by omega), ⟨hok.lt, hok.asc, hok.n1, fun s hs p hp => ?_⟩, ⟨l, i, C2, hr2⟩, c4.trans hcap, ?_, hkb⟩, k4.out ho hg⟩
    · rcases List.mem_append.1 hs with hs | hs
      · exact hok.ne s (List.mem_append_left _ hs) p hp
      · obtain rfl := List.mem_singleton.1 hs
        cases hp
    · rw [hr2.used]
      rw [hr.used] at hus
      simp only [framesT, List.map_nil, List.flatten_nil, List.length_nil]
      simp only [framesT] at hus
      omega
end
end Go.Proofs.YtfpgbhimgfdddaaGreatDoor
