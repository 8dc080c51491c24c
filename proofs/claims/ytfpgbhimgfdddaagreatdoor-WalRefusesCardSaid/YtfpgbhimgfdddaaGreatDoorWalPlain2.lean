/- The plain law of layer 16 (wal): what each call of the disk does to a directory of segments. No program in sight. -/
import Derived.Test.YtfpgbhimgfdddaaGreatDoorWalPlain
set_option linter.unusedVariables false
set_option linter.unusedSimpArgs false
namespace Go.Proofs.YtfpgbhimgfdddaaGreatDoor

theorem segT_name {n : Nat} (h1 : 1 ≤ n) (h2 : n ≤ 99999999) : nameB (nameT sS (n : Int)) = true := by
  rw [segT_good h1 h2]
  unfold nameB
  rw [List.all_append, padN_name]
  simp [sS, padN_len, nameC]
theorem rest_wP {n : Nat} (h1 : 1 ≤ n) (h2 : n ≤ 99999999) : Rest ([47] ++ nameT sS (n : Int)) := ⟨⟨_, rfl, segT_name h1 h2⟩⟩
theorem wP_eq (dir : Txt) (n : Int) : wP dir n = dir ++ ([47] ++ nameT sS n) := by unfold wP; simp
/-- A disk whose things are one directory of segments; nothing is foreseen to go off. -/
structure WalD (dir : Txt) (l : List Sg) (C : Nat → Txt) (d : Ds) : Prop where
  off : d.off = false
  aw : d.await = 0
  nm : nameB dir = true
  th : d.things = wThings dir l
  ok : SgOk l
  lt : ∀ g ∈ l, g.i < d.files.length
  ne : l.Pairwise fun a b => a.i ≠ b.i
  now : ∀ g ∈ l, (fAt d g.i).now = C g.n
section
variable {dir : Txt} {l : List Sg} {C : Nat → Txt} {d : Ds} {g : Sg}
theorem WalD.path (h : WalD dir l C d) {n : Nat} (h1 : 1 ≤ n) (h2 : n ≤ 99999999) : pathB (wP dir (n : Int)) = true := by
  rw [wP_eq]
  exact (rest_wP h1 h2).path h.nm
theorem WalD.parent (h : WalD dir l C d) {n : Nat} (h1 : 1 ≤ n) (h2 : n ≤ 99999999) : parentB d.things (wP dir (n : Int)) = true := by
  unfold parentB
  rw [wP_eq, (rest_wP h1 h2).slash h.nm]
  simp only [List.take_left]
  rw [h.th]
  unfold isT
  rw [w_finddir]
  rfl
theorem WalD.file (h : WalD dir l C d) (hg : g ∈ l) : fileD d (wP dir (g.n : Int)) = .ok g.i :=
  file_ok h.off (h.path (h.ok.rng g hg).1 (h.ok.rng g hg).2) (by rw [h.th]; exact w_find h.ok hg)
theorem WalD.all (h : WalD dir l C d) (hg : g ∈ l) : allD d (wP dir (g.n : Int)) = (C g.n, 0) := by
  rw [all_some (h.file hg), h.now g hg]
theorem WalD.used (h : WalD dir l C d) : usedD d = (l.map fun g => (C g.n).length).sum := by
  unfold usedD usedL
  rw [h.off, h.th]
  simp only [Bool.false_eq_true, if_false]
  unfold wThings
  rw [List.map_cons, List.map_map, List.sum_cons, if_pos rfl, Nat.zero_add]
  congr 1
  refine List.map_congr_left fun g hg => ?_
  have := h.now g hg
  show (nowAt d g.i).length = _
  rw [← this]
  rfl
theorem WalD.list (h : WalD dir l C d) : listD d dir = (l.map fun g => ⟨nameT sS (g.n : Int), false, (nowAt d g.i).length⟩, 0) := w_list h.off h.nm h.th h.ok
theorem WalD.is_none (h : WalD dir l C d) {n : Nat} (h1 : 1 ≤ n) (h2 : n ≤ 99999999) (hn : ∀ g ∈ l, g.n ≠ n) : isT d.things (wP dir (n : Int)) = 0 := by
  unfold isT
  rw [h.th, w_none h.ok h1 h2 hn]
theorem WalD.syncNames (h : WalD dir l C d) : (syncNamesD d).1 = 0 ∧ WalD dir l C (syncNamesD d).2 ∧ (syncNamesD d).2.cap = d.cap := by
  have e : syncNamesD d = (0, { tickD d with safe := d.things, steps := [] }) := by
    rw [syncNames_ok h.off, if_neg (by rw [h.aw]; decide)]
  rw [e]
  exact ⟨rfl, ⟨h.off, by show d.await - 1 = 0; rw [h.aw], h.nm, h.th, h.ok, h.lt, h.ne, h.now⟩, rfl⟩
theorem WalD.create (h : WalD dir l C d) {n : Nat} (h1 : 1 ≤ n) (h2 : n ≤ 99999999) (hn : ∀ g ∈ l, g.n < n) :
    (createD d (wP dir (n : Int))).1 = 0 ∧ WalD dir (l ++ [⟨n, d.files.length⟩]) (fun k => if k = n then [] else C k) (createD d (wP dir (n : Int))).2 ∧ (createD d (wP dir (n : Int))).2.cap = d.cap := by
  have e := create_ok h.off (h.path h1 h2) (h.parent h1 h2) (h.is_none h1 h2 fun g hg => by have := hn g hg; omega)
  rw [if_neg (by rw [h.aw]; decide)] at e
  rw [e]
  refine ⟨rfl, ⟨h.off, by show d.await - 1 = 0; rw [h.aw], h.nm, ?_, ⟨?_, ?_⟩, ?_, ?_, ?_⟩, rfl⟩
  · show d.things ++ [_] = _
    rw [h.th]
    simp [wThings]
  · refine List.pairwise_append.2 ⟨h.ok.asc, List.pairwise_singleton _ _, fun a ha b hb => ?_⟩
    obtain rfl := List.mem_singleton.1 hb
    exact hn a ha
  · intro g hg
    rcases List.mem_append.1 hg with hg | hg
    · exact h.ok.rng g hg
    · obtain rfl := List.mem_singleton.1 hg
      exact ⟨h1, h2⟩
  · intro g hg
    show g.i < (d.files ++ [_]).length
    rw [List.length_append, List.length_singleton]
    rcases List.mem_append.1 hg with hg | hg
    · have := h.lt g hg; omega
    · obtain rfl := List.mem_singleton.1 hg
      dsimp only
      omega
  · refine List.pairwise_append.2 ⟨h.ne, List.pairwise_singleton _ _, fun a ha b hb => ?_⟩
    obtain rfl := List.mem_singleton.1 hb
    have := h.lt a ha
    dsimp only
    omega
  · intro g hg
    show (((d.files ++ [(⟨[], [], []⟩ : By)])[g.i]?).getD default).now = _
    rcases List.mem_append.1 hg with hg | hg
    · have h3 := h.lt g hg
      have h4 := hn g hg
      rw [List.getElem?_append_left h3, if_neg (by omega)]
      exact h.now g hg
    · obtain rfl := List.mem_singleton.1 hg
      rw [List.getElem?_append_right (Nat.le_refl _), if_pos rfl]
      simp
/-- A file set: its content is another. -/
theorem WalD.set (h : WalD dir l C d) (hg : g ∈ l) (f : By) : WalD dir l (fun k => if k = g.n then f.now else C k) (setF (tickD d) g.i f) := by
  refine ⟨h.off, by show d.await - 1 = 0; rw [h.aw], h.nm, h.th, h.ok, fun x hx => ?_, h.ne, fun x hx => ?_⟩
  · show x.i < (d.files.set _ _).length
    rw [List.length_set]
    exact h.lt x hx
  · show (((d.files.set g.i f)[x.i]?).getD default).now = _
    by_cases hxg : x.n = g.n
    · have hxe : x = g := by
        rcases List.mem_iff_getElem.1 hx with ⟨i, hi, rfl⟩
        rcases List.mem_iff_getElem.1 hg with ⟨j, hj, rfl⟩
        rcases Nat.lt_trichotomy i j with hij | rfl | hij
        · have := List.pairwise_iff_getElem.1 h.ok.asc i j hi hj hij; omega
        · rfl
        · have := List.pairwise_iff_getElem.1 h.ok.asc j i hj hi hij; omega
      subst hxe
      rw [if_pos rfl, List.getElem?_set_self (h.lt x hx)]
      rfl
    · have hi : g.i ≠ x.i := by
        rcases List.mem_iff_getElem.1 hx with ⟨i, hi, rfl⟩
        rcases List.mem_iff_getElem.1 hg with ⟨j, hj, rfl⟩
        rcases Nat.lt_trichotomy i j with hij | rfl | hij
        · exact (List.pairwise_iff_getElem.1 h.ne i j hi hj hij).symm
        · exact absurd rfl hxg
        · exact List.pairwise_iff_getElem.1 h.ne j i hj hi hij
      rw [if_neg hxg, List.getElem?_set_ne hi]
      exact h.now x hx
theorem WalD.append (h : WalD dir l C d) (hg : g ∈ l) (x : Txt) (hc : usedD d + x.length ≤ d.cap) :
    (appendD d (wP dir (g.n : Int)) x).1 = 0 ∧ WalD dir l (fun k => if k = g.n then C g.n ++ x else C k) (appendD d (wP dir (g.n : Int)) x).2 ∧ (appendD d (wP dir (g.n : Int)) x).2.cap = d.cap := by
  have e := append_ok (h.file hg) x hc
  rw [if_neg (by rw [h.aw]; decide)] at e
  rw [e]
  have h2 := h.set hg { fAt d g.i with now := (fAt d g.i).now ++ x, steps := (fAt d g.i).steps ++ [⟨x, false, 0⟩] }
  simp only [h.now g hg] at h2
  refine ⟨rfl, ?_, rfl⟩
  simp only [h.now g hg]
  exact h2
theorem WalD.sync (h : WalD dir l C d) (hg : g ∈ l) :
    (syncD d (wP dir (g.n : Int))).1 = 0 ∧ WalD dir l C (syncD d (wP dir (g.n : Int))).2 ∧ (syncD d (wP dir (g.n : Int))).2.cap = d.cap := by
  have e := sync_ok (h.file hg)
  rw [if_neg (by rw [h.aw]; decide)] at e
  rw [e]
  have h2 := h.set hg ⟨(fAt d g.i).now, (fAt d g.i).now, []⟩
  refine ⟨rfl, ⟨h2.off, h2.aw, h2.nm, h2.th, h2.ok, h2.lt, h2.ne, fun x hx => ?_⟩, rfl⟩
  rw [h2.now x hx]
  dsimp only
  split
  · rename_i e2
    rw [h.now g hg, e2]
  · rfl
theorem WalD.cut (h : WalD dir l C d) (hg : g ∈ l) (n : Nat) (hn : n ≤ (C g.n).length) :
    (cutD d (wP dir (g.n : Int)) (n : Int)).1 = 0 ∧ WalD dir l (fun k => if k = g.n then (C g.n).take n else C k) (cutD d (wP dir (g.n : Int)) (n : Int)).2 ∧ (cutD d (wP dir (g.n : Int)) (n : Int)).2.cap = d.cap := by
  have e : cutD d (wP dir (g.n : Int)) (n : Int) = (0, setF (tickD d) g.i { fAt d g.i with now := (C g.n).take n, steps := (fAt d g.i).steps ++ [⟨[], true, n⟩] }) := by
    have hst : stepD d = (0, tickD d) := by rw [step_ite, if_neg (by rw [h.aw]; decide)]
    unfold cutD
    rw [h.file hg]
    simp only [hst]
    rw [h.now g hg, if_neg (by omega)]
    simp
  rw [e]
  exact ⟨rfl, h.set hg { fAt d g.i with now := (C g.n).take n, steps := (fAt d g.i).steps ++ [⟨[], true, n⟩] }, rfl⟩
theorem WalD.mkdir_new (hd : nameB dir = true) (C : Nat → Txt) (cap : Int) : (mkdirD (newD cap) dir).1 = 0 ∧ WalD dir [] C (mkdirD (newD cap) dir).2 ∧ (mkdirD (newD cap) dir).2.cap = (newD cap).cap := by
  have e : mkdirD (newD cap) dir = namesD (newD cap) (.mkdir dir) := mkdir_ok rfl hd rfl
  rw [e, names_ite, if_neg (by show ¬ (0 : Nat) = 1; decide)]
  exact ⟨rfl, ⟨rfl, rfl, hd, rfl, ⟨List.Pairwise.nil, fun g hg => by cases hg⟩, fun g hg => (by cases hg), List.Pairwise.nil, fun g hg => by cases hg⟩, rfl⟩
theorem WalD.mkdir_again (h : WalD dir l C d) : mkdirD d dir = (5, d) := by
  unfold mkdirD
  have hi : isT d.things dir = 2 := by unfold isT; rw [h.th, w_finddir]; rfl
  rw [if_neg (by rw [h.off]; simp), if_neg (by rw [h.nm]; simp), if_pos (by rw [hi]; decide)]
theorem wP_pre {a b : Nat} (ha1 : 1 ≤ a) (ha2 : a ≤ 99999999) (hb1 : 1 ≤ b) (hb2 : b ≤ 99999999) : insideB (wP dir (a : Int)) (wP dir (b : Int)) = false := by
  unfold insideB
  rw [Bool.eq_false_iff]
  intro h
  have := (List.isPrefixOf_iff_prefix.1 h).length_le
  simp [wP, segT_len ha1 ha2, segT_len hb1 hb2] at this
theorem dir_pre {b : Nat} : insideB dir (wP dir (b : Int)) = false := by
  unfold insideB
  rw [Bool.eq_false_iff]
  intro h
  have := (List.isPrefixOf_iff_prefix.1 h).length_le
  simp [wP] at this
  omega
theorem WalD.remove (h : WalD dir l C d) (hg : g ∈ l) :
    (removeD d (wP dir (g.n : Int))).1 = 0 ∧ WalD dir (l.filter fun x => x.n != g.n) C (removeD d (wP dir (g.n : Int))).2 ∧ (removeD d (wP dir (g.n : Int))).2.cap = d.cap := by
  have hr := h.ok.rng g hg
  have hi : isT d.things (wP dir (g.n : Int)) = 1 := by unfold isT; rw [h.th, w_find h.ok hg]; rfl
  have e : removeD d (wP dir (g.n : Int)) = namesD d (.remove (wP dir (g.n : Int))) := by
    unfold removeD
    rw [if_neg (by rw [h.off]; simp), if_neg (by rw [h.path hr.1 hr.2]; simp), if_neg (by rw [hi]; decide)]
  rw [e, names_ite, if_neg (by rw [h.aw]; decide)]
  refine ⟨rfl, ⟨h.off, by show d.await - 1 = 0; rw [h.aw], h.nm, ?_, ⟨h.ok.asc.filter _, fun x hx => h.ok.rng x ((List.mem_filter.1 hx).1)⟩, fun x hx => h.lt x ((List.mem_filter.1 hx).1), h.ne.filter _, fun x hx => h.now x ((List.mem_filter.1 hx).1)⟩, rfl⟩
  show (d.things.filter _) = _
  rw [h.th]
  unfold wThings
  rw [List.filter_cons_of_pos (by simp [dir_pre, (wP_dir dir g.n).symm])]
  rw [List.filter_map]
  congr 2
  refine List.filter_congr fun x hx => ?_
  have hx2 := h.ok.rng x hx
  simp only [Function.comp, wP_pre hx2.1 hx2.2 hr.1 hr.2, Bool.or_false]
  have e2 : (wP dir (x.n : Int) == wP dir (g.n : Int)) = (x.n == g.n) := by
    by_cases hxg : x.n = g.n
    · rw [hxg]
      simp
    · rw [beq_eq_false_iff_ne.2 (fun e => hxg (wP_inj hx2.1 hx2.2 hr.1 hr.2 e)), beq_eq_false_iff_ne.2 hxg]
  simp [e2, bne]
end
end Go.Proofs.YtfpgbhimgfdddaaGreatDoor
