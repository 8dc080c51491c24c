/- Merged (what the claim wants of): DskPlain5, DskWalksY, RdkMem, RdkWalksA, RdkWalksB, RdkWalksC, RdkMem2, RdkWalksD, RdkWalksE, RdkWalksF, RdkWalksG, RdkWalksL. -/
import Derived.Test.YtfpgbhimgfdddaaGreatDoorWak04
import Derived.Test.YtfpgbhimgfdddaaGreatDoorWak11
import Derived.Test.YtfpgbhimgfdddaaGreatDoorIter
import Derived.Laws.OwnMore
import Derived.Deep.AppendLies
import Derived.Deep.Onto
import Derived.Sort.Walk0
set_option linter.unusedVariables false
set_option linter.unusedSimpArgs false
/- The plain law of layer 3 (disk): lists of entries in their order; the files of a restart, one by one. No program in sight. -/
namespace Go.Proofs.YtfpgbhimgfdddaaGreatDoor

/-! ### sorted lists of entries -/
def LeE (x y : En) : Prop := ¬ y.name < x.name
theorem insE_perm (x : En) : ∀ l : List En, (insE x l).Perm (x :: l)
  | [] => .refl _
  | y :: l => by
    unfold insE
    split
    · exact .refl _
    · exact ((insE_perm x l).cons y).trans (.swap x y l)
theorem insE_sorted (x : En) : ∀ {l : List En}, l.Pairwise LeE → (insE x l).Pairwise LeE
  | [], _ => List.pairwise_singleton _ _
  | y :: l, h => by
    have h1 := List.pairwise_cons.1 h
    unfold insE
    split
    · rename_i hxy
      refine List.pairwise_cons.2 ⟨fun z hz => ?_, h⟩
      rcases List.mem_cons.1 hz with rfl | hz
      · intro h2
        exact List.lt_irrefl _ (List.lt_trans hxy h2)
      · intro h2
        exact h1.1 z hz (List.lt_trans h2 hxy)
    · rename_i hxy
      refine List.pairwise_cons.2 ⟨fun z hz => ?_, insE_sorted x h1.2⟩
      rcases List.mem_cons.1 ((insE_perm x l).mem_iff.1 hz) with rfl | hz
      · exact hxy
      · exact h1.1 z hz
theorem foldE_perm : ∀ (l acc : List En), (l.foldl (fun acc x => insE x acc) acc).Perm (l ++ acc)
  | [], _ => .refl _
  | x :: l, acc => by
    rw [List.foldl_cons]
    refine (foldE_perm l _).trans ?_
    refine ((insE_perm x acc).append_left l).trans ?_
    rw [List.cons_append]
    exact List.perm_middle
theorem foldE_sorted : ∀ (l : List En) {acc : List En}, acc.Pairwise LeE → (l.foldl (fun acc x => insE x acc) acc).Pairwise LeE
  | [], _, h => h
  | x :: l, _, h => foldE_sorted l (insE_sorted x h)
theorem sortE_perm (l : List En) : (sortE l).Perm l := by
  have := foldE_perm l []
  rw [List.append_nil] at this
  exact this
theorem sortE_sorted (l : List En) : (sortE l).Pairwise LeE := foldE_sorted l List.Pairwise.nil
theorem sorted_one : ∀ {l l' : List En}, l.Perm l' → l.Pairwise LeE → l'.Pairwise LeE → (l.map En.name).Nodup → l = l'
  | [], l', h, _, _, _ => (List.nil_perm.1 h).symm
  | x :: l, [], h, _, _, _ => absurd (h.length_eq) (by simp)
  | x :: l, y :: m, h, h1, h2, hn => by
    have k1 := List.pairwise_cons.1 h1
    have k2 := List.pairwise_cons.1 h2
    have kn := List.nodup_cons.1 (by simpa using hn : (x.name :: l.map En.name).Nodup)
    by_cases e : x = y
    · subst e
      rw [sorted_one h.cons_inv k1.2 k2.2 kn.2]
    · have hx : x ∈ m := by
        rcases List.mem_cons.1 (h.mem_iff.1 (List.mem_cons_self ..)) with h3 | h3
        · exact absurd h3 e
        · exact h3
      have hy : y ∈ l := by
        rcases List.mem_cons.1 (h.mem_iff.2 (List.mem_cons_self ..)) with h3 | h3
        · exact absurd h3.symm e
        · exact h3
      have : x.name = y.name := txt_tri (k2.1 x hx) (k1.1 y hy)
      exact absurd (List.mem_map.2 ⟨y, hy, this.symm⟩) kn.1

/-! ### a restart's files -/
theorem sortedF_mem {l : List Th} {e : En} : e ∈ sortedF l ↔ ∃ x ∈ l, x.dir = false ∧ e = ⟨x.path, false, x.at_⟩ := by
  unfold sortedF
  rw [(sortE_perm _).mem_iff, List.mem_map]
  constructor
  · rintro ⟨x, hx, rfl⟩
    have := List.mem_filter.1 hx
    exact ⟨x, this.1, by simpa using this.2, rfl⟩
  · rintro ⟨x, hx, h1, rfl⟩
    exact ⟨x, List.mem_filter.2 ⟨hx, by simp [h1]⟩, rfl⟩
theorem sortedF_asc {l : List Th} (h : (l.map Th.path).Nodup) : Asc ((sortedF l).map En.name) := by
  have hn : ((sortedF l).map En.name).Nodup := by
    unfold sortedF
    rw [((sortE_perm _).map En.name).nodup_iff]
    rw [List.map_map]
    have : (En.name ∘ fun x : Th => (⟨x.path, false, x.at_⟩ : En)) = Th.path := by funext x; rfl
    rw [this]
    exact (List.Sublist.map _ List.filter_sublist).nodup h
  unfold Asc
  rw [List.pairwise_map]
  have hs : (sortedF l).Pairwise LeE := sortE_sorted _
  rw [List.nodup_iff_pairwise_ne, List.pairwise_map] at hn
  refine (hs.and hn).imp ?_
  rintro x y ⟨h1, h2⟩
  rcases Classical.em (x.name < y.name) with h3 | h3
  · exact h3
  · exact absurd (txt_tri h3 h1) h2
theorem sortedF_names {l : List Th} (h : (l.map Th.path).Nodup) {ks : List Txt} (ha : Asc ks) (hm : ∀ x, x ∈ ks ↔ ∃ y ∈ l, y.dir = false ∧ y.path = x) : (sortedF l).map En.name = ks := by
  refine asc_one (sortedF_asc h) ha fun x => ?_
  rw [hm, List.mem_map]
  constructor
  · rintro ⟨e, he, rfl⟩
    obtain ⟨y, hy, h1, rfl⟩ := sortedF_mem.1 he
    exact ⟨y, hy, h1, rfl⟩
  · rintro ⟨y, hy, h1, rfl⟩
    exact ⟨_, sortedF_mem.2 ⟨y, hy, h1, rfl⟩, rfl⟩
theorem keepAll_snoc (data : List Int) (z : Bool) (x : En) : ∀ (l : List En) (i : Nat) (fs : List By),
    keepAll data z (l ++ [x]) i fs = (keepAll data z l i fs).set x.size (keepF ((keepAll data z l i fs)[x.size]?.getD default) (if data = [] then 0 else data[(i + l.length) % data.length]?.getD 0) z)
  | [], i, fs => by simp [keepAll]
  | y :: l, i, fs => by
    rw [List.cons_append, keepAll, keepAll_snoc data z x l, keepAll, List.length_cons, show i + 1 + l.length = i + (l.length + 1) by omega]
theorem keepAll_take (data : List Int) (z : Bool) (l : List En) (fs : List By) {i : Nat} (hi : i < l.length) :
    keepAll data z (l.take (i + 1)) 0 fs = (keepAll data z (l.take i) 0 fs).set l[i]!.size (keepF ((keepAll data z (l.take i) 0 fs)[l[i]!.size]?.getD default) (if data = [] then 0 else data[i % data.length]?.getD 0) z) := by
  have e : l.take (i + 1) = l.take i ++ [l[i]!] := by rw [List.take_add_one, List.getElem?_eq_getElem hi, getElem!_pos l i hi]; rfl
  rw [e, keepAll_snoc, List.length_take, Nat.min_eq_left (by omega), Nat.zero_add]

/-! ### a list of entries -/
theorem entD_nodup {d : Ds} (h : (d.things.map Th.path).Nodup) (dir : Txt) : ((entD d dir).map En.name).Nodup := by
  unfold entD
  generalize d.things = th at h
  induction th with
  | nil => simp
  | cons x l ih =>
    have h1 := List.nodup_cons.1 (by simpa using h : (x.path :: l.map Th.path).Nodup)
    have ih' := ih h1.2
    rw [List.filterMap_cons]
    split
    · exact ih'
    · rename_i e he
      rw [List.map_cons, List.nodup_cons]
      refine ⟨fun hm => ?_, ih'⟩
      obtain ⟨e2, he2, hne⟩ := List.mem_map.1 hm
      obtain ⟨y, hy, hey⟩ := List.mem_filterMap.1 he2
      refine h1.1 (List.mem_map.2 ⟨y, hy, ?_⟩)
      by_cases hd : dir = []
      · rw [if_pos hd] at he hey
        split at he
        · cases he
        · split at hey
          · cases hey
          · injection he with he
            injection hey with hey
            rw [← he, ← hey] at hne
            exact hne
      · rw [if_neg hd] at he hey
        split at he
        · rename_i hx
          split at hey
          · rename_i hyy
            injection he with he
            injection hey with hey
            rw [← he, ← hey] at hne
            obtain ⟨r, hr⟩ := inside_iff.1 hx
            obtain ⟨s, hs⟩ := inside_iff.1 hyy
            have e1 : x.path.drop (dir.length + 1) = r := by rw [hr]; simp
            have e2 : y.path.drop (dir.length + 1) = s := by rw [hs]; simp
            simp only at hne
            rw [e1, e2] at hne
            rw [hr, hs, hne]
          · cases hey
        · cases he
theorem sortE_one {d : Ds} (h : (d.things.map Th.path).Nodup) {dir : Txt} {l : List En} (hp : l.Perm (entD d dir)) (hs : l.Pairwise LeE) : l = sortE (entD d dir) :=
  sorted_one (hp.trans (sortE_perm _).symm) hs (sortE_sorted _) ((hp.map En.name).nodup_iff.2 (entD_nodup h dir))
end Go.Proofs.YtfpgbhimgfdddaaGreatDoor

/- The walks of layer 3 (disk): Restart. -/
namespace Go.Proofs.YtfpgbhimgfdddaaGreatDoor
open Go.RowKit Go.Shelf Go.Maps Go.Sort
attribute [local go_sem ↓] Go.wp_at_zero Go.wp_at_succ
attribute [local go_sem] Later.cell Later.frozen

/-! ### the keys of a map, sorted -/
theorem keys_tab {D : DataW Value} {w : World} {b n : Nat} {ss : List Txt} (hown : w.ownsMap Tryz.prog 9 HR b n D) (hp : ss.Perm (strKeys D)) : Asc (ss.mergeSort fun x y => decide (x ≤ y)) ∧ ∀ x, x ∈ ss.mergeSort (fun x y => decide (x ≤ y)) ↔ Maps.has D (.string x) = true := by
  obtain ⟨es, rfl, hpw⟩ := hown.tidy law3
  obtain ⟨es', e', hko⟩ := hown.keysOf
  injection e' with e'
  subst e'
  have hstr : ∀ p ∈ es, ∃ x, p.1 = .string x := fun p hp => by
    obtain ⟨v, hv⟩ := hko p hp
    obtain ⟨x, _, hx, _⟩ := Maps.keyOf_str Tryz.underlying9 hv
    exact ⟨x, hx⟩
  have hnd : (strKeys (.map es)).Nodup := by
    show (es.map fun p => strOf p.1).Nodup
    refine List.pairwise_map.2 (hpw.imp_of_mem fun {p q} hp' hq' hne e => hne ?_)
    obtain ⟨a, ha⟩ := hstr p hp'
    obtain ⟨b, hb⟩ := hstr q hq'
    rw [ha, hb] at e ⊢
    exact congrArg _ e
  have hmem : ∀ x, x ∈ strKeys (.map es) ↔ Maps.has (.map es : DataW Value) (.string x) = true := by
    intro x
    rw [has_eq, List.any_eq_true]
    show x ∈ es.map (fun p => strOf p.1) ↔ _
    rw [List.mem_map]
    constructor
    · rintro ⟨p, hp, rfl⟩
      obtain ⟨a, ha⟩ := hstr p hp
      exact ⟨p, hp, by rw [ha]; simp [strOf, Lit.sameKey]⟩
    · rintro ⟨p, hp, e⟩
      obtain ⟨a, ha⟩ := hstr p hp
      rw [ha] at e
      exact ⟨p, hp, by rw [ha]; simpa [strOf, Lit.sameKey] using e⟩
  have hsorted : (ss.mergeSort fun x y => decide (x ≤ y)).Pairwise (fun a b => a ≤ b) := by
    have := List.pairwise_mergeSort (le := fun x y : Txt => decide (x ≤ y)) (by intro a b c; simp; exact List.le_trans) (by intro a b; simp; exact List.le_total a b) ss
    simpa using this
  have hperm := (List.mergeSort_perm ss fun x y => decide (x ≤ y)).trans hp
  have hnd' := (hperm.nodup_iff).2 hnd
  refine ⟨?_, fun x => ?_⟩
  · unfold Asc
    refine (hsorted.and hnd').imp ?_
    rintro a b ⟨h1, h2⟩
    exact txt_lt_ne h1 (Ne.symm h2)
  · rw [← hmem x]
    exact hperm.mem_iff
def KeysOut (w : World) (f : Txt → Option Value) (e : Ending) (w' : World) : Prop :=
  ∃ A c ks, e = .returned (.slice A ks.length c) ∧ Strs w' A ks.length ks ∧ ks.length ≤ c ∧ Asc ks ∧ (∀ x, x ∈ ks ↔ (f x).isSome = true) ∧ (∀ a, A = some a → w.heap.size ≤ a.block) ∧ Below w.heap.size w w'
theorem keysF_calls (b : Nat) (f : Txt → Option Value) (w : World) (h : SM w b f) (L : List Txt) (hL : ∀ x, (f x).isSome = true → x ∈ L) (hn : L.length ≤ 1073741824) :
    ∃ v : Value, (Calls Tryz.prog 78 #[.map (some b)] w fun e w' => e = .returned v ∧ w' = w.alloc (.cells #[.map (some b)] 120)) ∧
      Calls Tryz.prog 77 #[v] (w.alloc (.cells #[.map (some b)] 120)) (KeysOut w f) := by
  have hkeys := callsIn_wide.1 (Tryz.maps_Keys_78 (some b) w)
  obtain ⟨D, hown, hhas, _⟩ := h
  have hsz : Maps.size D ≤ L.length := SMap.size_le Tryz.underlying9 hown L (fun x hx => hL x (by rw [← hhas]; exact hx))
  have hsorted := callsIn_wide.1 (Tryz.slices_Sorted_keys_77_78 b (Maps.size D) D _ w hown (by unfold maxLen; omega) (by omega))
  refine ⟨_, hkeys, hsorted.mono ?_⟩
  rintro e w3 ⟨v, ss, rfl, hP, hrow, _, hb3⟩
  obtain ⟨h1, h2⟩ := keys_tab hown hP
  have hml : (ss.mergeSort fun x y => decide (x ≤ y)).length = ss.length := List.length_mergeSort _
  obtain ⟨z, hz⟩ : ∃ z, ss.mergeSort (fun x y => decide (x ≤ y)) = z := ⟨_, rfl⟩
  rw [hz] at h1 h2 hml hrow
  rw [← hml] at hrow
  obtain ⟨A', c', rfl, hs3, hfr, hc3⟩ := Strs.of_own (l := z) (by
    have e1 : z.map encStr = z.map txtV := rfl
    rw [← e1]
    exact hrow) rfl
  exact ⟨A', c', z, rfl, hs3, hc3, h1, fun x => by rw [h2 x, hhas], fun a ha => by have := hfr a ha; simp at this; omega, then_ ((Below.refl _ _).alloc (Nat.le_refl _) _) hb3⟩

/-! ### the maps of what there is are others -/
section
variable {B0 M : Nat} {R : Nat → Nat} {A : Adr} {d : Ds} {w : World}
def treeW (w : World) (p x y : Nat) : World := (w.setCell ⟨p, 0, none⟩ (.map (some x))).setCell ⟨p, 1, none⟩ (.map (some y))
theorem treeW_size (w : World) (p x y : Nat) : (treeW w p x y).heap.size = w.heap.size := by simp [treeW, World.setCell]
theorem treeW_heap (w : World) {p x y k : Nat} (h : k ≠ p) : (treeW w p x y).heap[k]? = w.heap[k]? :=
  (Below.heap_setCell _ _ _ k h).trans (Below.heap_setCell _ _ _ k h)
theorem CD.retree (h : CD B0 w R A d) {w1 : World} {x y : Nat} {l : List Th} (hb : Below w.heap.size w w1) (hx : SM w1 x (dirF l)) (hy : SM w1 y (filF A.φ l)) (hxy : x ≠ y) (hxl : w.heap.size ≤ x) (hyl : w.heap.size ≤ y) (hB : B0 ≤ w.heap.size) :
    CD B0 (treeW w1 A.p x y) (giv (giv R x 2) y 3) { A with md := x, mf := y } { d with things := l } ∧ Own R (giv (giv R x 2) y 3) w (treeW w1 A.p x y) := by
  have hpl := Blk.lt h.blk
  have hp0 : A.p ≠ x := by omega
  have hp1 : A.p ≠ y := by omega
  have hold : ∀ k, k < w.heap.size → giv (giv R x 2) y 3 k = R k := fun k hk => by rw [giv_ne (by omega), giv_ne (by omega)]
  have hblk := Blk.below h.blk hb hpl
  have hx1 := SMap.lt hx
  have hy1 := SMap.lt hy
  have key : ∀ k, R k ≠ 0 → R k ≠ 1 → (treeW w1 A.p x y).heap[k]? = w.heap[k]? ∧ giv (giv R x 2) y 3 k = R k := fun k hk h1 =>
    ⟨(treeW_heap w1 (fun e => h1 (by rw [e]; exact h.rp))).trans (hb.block k (h.inw k hk)), hold k (h.inw k hk)⟩
  have hin : InW (giv (giv R x 2) y 3) (treeW w1 A.p x y) := by
    intro k hk
    rw [treeW_size]
    by_cases e1 : k = y
    · omega
    by_cases e2 : k = x
    · omega
    rw [giv_ne e1, giv_ne e2] at hk
    exact Nat.lt_of_lt_of_le (h.inw k hk) hb.size
  refine ⟨?_, ?_⟩
  · exact {
      blk := (Blk.set_ hblk 0 _).set_ 1 _
      rp := by rw [hold _ hpl]; exact h.rp
      dirs := ⟨hx.same (treeW_heap w1 (Ne.symm hp0)), by show giv (giv R x 2) y 3 x = 2; rw [giv_ne hxy, giv_self]⟩
      files := ⟨hy.same (treeW_heap w1 (Ne.symm hp1)), giv_self _ _ _⟩
      sdirs := h.sdirs.same fun k hk => key k (by omega) (by omega)
      sfiles := h.sfiles.same fun k hk => key k (by omega) (by omega)
      steps := h.steps.same fun k hk => key k (by omega) (by omega)
      bytes := h.bytes.same fun k hk => key k (by omega) (by omega)
      inw := hin
      low := fun k hk => by rw [hold k (by omega)]; exact h.low k hk }
  · exact ⟨hb.os, hb.tape, hb.output, by rw [treeW_size]; exact hb.size, fun k hk hr => (treeW_heap w1 (fun e => by rw [e, h.rp] at hr; omega)).trans (hb.block k hk), hold⟩
theorem CD.lights (h : CD B0 w R A d) : CD B0 ((w.setCell ⟨A.p, 6, none⟩ (.bool false)).setCell ⟨A.p, 7, none⟩ (.int .i64 0)) R A { d with off := false, await := 0 } ∧ Own R R w ((w.setCell ⟨A.p, 6, none⟩ (.bool false)).setCell ⟨A.p, 7, none⟩ (.int .i64 0)) := by
  have hp1 : R A.p ≠ 0 := by rw [h.rp]; omega
  have h1 : DBlk (w.setCell ⟨A.p, 6, none⟩ (.bool false)) A { d with off := false } := DBlk.set w h.blk rfl
  exact ⟨h.blk_only (fun k _ hk => (Below.heap_setCell _ _ _ k hk).trans (Below.heap_setCell _ _ _ k hk)) (by simp [World.setCell]) (DBlk.set _ h1 rfl) rfl rfl rfl rfl, (Own.of_set _ hp1).trans (Own.of_set _ hp1)⟩
theorem StepM.fn {φ : List Nat} {s : St} {v : Value} (h : StepM w R φ s v) : ∃ F C, v = .func (.func F) #[] C := by
  cases s with
  | mkdir a => obtain ⟨b, h1, _⟩ := h; exact ⟨_, _, h1⟩
  | create a i => obtain ⟨b, c, h1, _⟩ := h; exact ⟨_, _, h1⟩
  | rename a b => obtain ⟨b, c, h1, _⟩ := h; exact ⟨_, _, h1⟩
  | remove a => obtain ⟨b, h1, _⟩ := h; exact ⟨_, _, h1⟩
def wishAt3 (data : List Int) (i : Nat) : Int := if data = [] then 0 else data[i % data.length]?.getD 0
def Ints3 (w : World) (A : Option Addr) (n : Nat) (l : List Int) : Prop := Elems w w.heap.size 1 I1 A n l
theorem Ints3.at_ {w : World} {A : Option Addr} {n : Nat} {l : List Int} (h : Ints3 w A n l) {i : Nat} (hi : i < n) : ∃ b off, A = some ⟨b, off, none⟩ ∧ b < w.heap.size ∧ w.cell? ⟨b, off + i, none⟩ = some (.int .i64 l[i]!) := by
  obtain ⟨b, off, e, hb, hc⟩ := h.2 (by omega)
  have hl : i < l.length := by have : l.length = n := Elems.len h; omega
  have hx := hc i l[i]! (by rw [getElem!_pos l i hl, List.getElem?_eq_getElem hl])
  exact ⟨b, off, e, hb, by simpa using hx 0 _ rfl⟩
def RestOut (B0 : Nat) (R : Nat → Nat) (A : Adr) (d' : Ds) (w : World) (e : Ending) (w' : World) : Prop :=
  ∃ R' A', e = .returned (.tuple #[]) ∧ CD B0 w' R' A' d' ∧ Own R R' w w' ∧ A'.p = A.p
set_option maxRecDepth 100000 in
set_option maxHeartbeats 8000000 in
theorem restart_calls (nst : Int) (Ad : Option Addr) (nd cd : Nat) (data : List Int) (zeros : Bool) (w : World) (h : CD B0 w R A d) (hw : WF M d) (hM : M ≤ 536870912) (hB : B0 ≤ w.heap.size) (hn1 : -9223372036854775808 ≤ nst) (hn2 : nst ≤ 9223372036854775807)
    (hdat : Ints3 w Ad nd data) (hdr : ∀ a, Ad = some a → 0 < nd → R a.block = 0) (hdb : ∀ x ∈ data, -9223372036854775808 ≤ x ∧ x ≤ 9223372036854775807) (hnd : nd ≤ 140737488355328) :
    Calls Tryz.prog 27 #[.pointer (some ⟨A.p, 0, none⟩), .int .i64 nst, .slice Ad nd cd, .bool zeros] w (RestOut B0 R A (restartD d nst data zeros) w) := by
  obtain ⟨p, hp⟩ : ∃ p, A.p = p := ⟨_, rfl⟩
  have HP := Lib.hid hp
  obtain ⟨ns, hns⟩ : ∃ n, d.steps.length = n := ⟨_, rfl⟩
  have hnsM : ns ≤ 536870912 := by have := hw.names; omega
  have HSH := Lib.hid (share_calls nst ns · hn1 hn2 (by omega))
  have hle := shareN_le nst ns
  obtain ⟨m, hm⟩ : ∃ m, shareN nst ns = m := ⟨_, rfl⟩
  rw [hm] at HSH hle
  have hE : restartD d nst data zeros = { d with things := (d.steps.take m).foldl applyS d.safe, safe := (d.steps.take m).foldl applyS d.safe, steps := [], files := keepAll data zeros (sortedF ((d.steps.take m).foldl applyS d.safe)) 0 d.files, off := false, await := 0 } := by
    unfold restartD
    rw [hns, hm]
  obtain ⟨sd, hsd⟩ : ∃ x, A.sd = x := ⟨_, rfl⟩
  obtain ⟨sf, hsf⟩ : ∃ x, A.sf = x := ⟨_, rfl⟩
  obtain ⟨md, hmd⟩ : ∃ x, A.md = x := ⟨_, rfl⟩
  obtain ⟨mf, hmf⟩ : ∃ x, A.mf = x := ⟨_, rfl⟩
  have hblk := h.blk
  unfold DBlk at hblk
  rw [hp, hsd, hsf, hmd, hmf] at hblk
  have k2 : w.cell? ⟨p, 2, none⟩ = some (.map (some sd)) := hblk.cell 2
  have k3 : w.cell? ⟨p, 3, none⟩ = some (.map (some sf)) := hblk.cell 3
  have HTW := Lib.hid (twinD_calls sd sf (dirF d.safe) (filF A.φ d.safe) w (by rw [← hsd]; exact h.sdirs.1) (by rw [← hsf]; exact h.sfiles.1))
  have HBLK := Lib.hid hblk
  have hpl : p < w.heap.size := lt_of_cell k2
  have HE := Lib.hid hE
  have HNS := Lib.hid hns
  have HDAT := Lib.hid hdat
  have HDR := Lib.hid hdr
  have HDB := Lib.hid hdb
  rw [hp]
  clear hE hns hm hp hblk hdat hdr hdb hsd hsf hmd hmf
  go_enter Tryz.func27, Tryz.ntmps27
  go_wp2_with fail
  refine HTW.out.mono ?_
  rintro _ w1 ⟨x, y, rfl, hx, hy, hxy, hxl, hyl, hb1⟩
  obtain ⟨hcd1, hO1⟩ := h.retree hb1 hx hy hxy hxl hyl hB
  rw [HP.out] at hcd1 hO1
  have hblk1 := HBLK.out.below hb1 hpl
  have j0 : w1.cell? ⟨p, 0, none⟩ = some (.map (some md)) := hblk1.cell 0
  have j1 : w1.cell? ⟨p, 1, none⟩ = some (.map (some mf)) := hblk1.cell 1
  have g0 := hblk1.frozen 0
  have g1 := hblk1.frozen 1
  unfold treeW at hcd1 hO1
  have HCD1 := Lib.hid hcd1
  have HO1 := Lib.hid hO1
  clear hcd1 hO1 hblk1 k2 k3 hb1 hx hy
  go_upto_region 2 with fail
  obtain ⟨w2, hw2⟩ : ∃ X, (w1.setCell ⟨p, 0, none⟩ (.map (some x))).setCell ⟨p, 1, none⟩ (.map (some y)) = X := ⟨_, rfl⟩
  have hcd2 := HCD1.out
  have hO2 := HO1.out
  rw [hw2] at hcd2 hO2 ⊢
  obtain ⟨R1, hR1⟩ : ∃ r, giv (giv R x 2) y 3 = r := ⟨_, rfl⟩
  rw [hR1] at hcd2 hO2
  obtain ⟨A1, hA1⟩ : ∃ r, ({ A with p := p, md := x, mf := y } : Adr) = r := ⟨_, rfl⟩
  have hp1 : A1.p = p := by rw [← hA1]
  have hφ : A1.φ = A.φ := by rw [← hA1]
  have hmd1 : A1.md = x := by rw [← hA1]
  have hmf1 : A1.mf = y := by rw [← hA1]
  rw [hA1] at hcd2
  obtain ⟨X2, c2, hsv, hc2⟩ : ∃ X2 c2, A1.sv = .slice X2 ns c2 ∧ ns ≤ c2 := by
    obtain ⟨fs, hrow, hfs, _⟩ := hcd2.steps
    have h1 := hrow.1
    have e1 : ({ d with things := d.safe } : Ds).steps.length = ns := HNS.out
    rw [e1] at h1
    rcases h1.2 with ⟨h2, h0⟩ | ⟨g, cap, cur, h2, _, _, hnc, _⟩
    · exact ⟨none, 0, by rw [h0]; exact h2, by omega⟩
    · exact ⟨_, cap, h2, hnc⟩
  have k4 : w2.cell? ⟨p, 4, none⟩ = some (.slice X2 ns c2) := by rw [← hp1, ← hsv]; exact Blk.cell hcd2.blk 4
  have hpl2 : p < w2.heap.size := lt_of_cell k4
  have HP1 := Lib.hid hp1
  have HPH := Lib.hid hφ
  have HMD := Lib.hid hmd1
  have HMF := Lib.hid hmf1
  have HSV := Lib.hid hsv
  have HCD2 := Lib.hid hcd2
  have HO2 := Lib.hid hO2
  clear hw2 hR1 hA1 hp1 hφ hmd1 hmf1 hsv hcd2 hO2 j0 j1 g0 g1 HCD1 HO1 hxy hxl hyl
  refine wp_region_later (by kernel_rfl) (by kernel_rfl) ?_
  repeat (go_big_quiet_step ((go_at_call 76; exact quiet_same _ (HSH.out _))))
  refine wpQuiet_nil ?_
  rintro w3 ⟨⟨_, hb3⟩, rfl⟩
  have HCD3 := Lib.hid (HCD2.out.below hb3)
  have HO3 := Lib.hid (HO2.out.trans (Own.of_below (R := R1) hb3))
  clear hb3 k4 hpl2
  go_upto_block 0 with fail
  go_cut [] (fun wz => CD B0 wz R1 A1 { d with things := (d.steps.take m).foldl applyS d.safe } ∧ Own R R1 w wz)
  case first =>
    go_wp2_with fail
    go_loopg [36] m (fun g s36 wr => ∃ i : Nat, i + g = m ∧ s36 = .int .i64 (i : Int) ∧ CD B0 wr R1 A1 { d with things := (d.steps.take i).foldl applyS d.safe } ∧ Own R R1 w wr)
    case atStart => exact ⟨0, by omega, rfl, HCD3.out, HO3.out⟩
    case round =>
      obtain ⟨i, hig, rfl, hcd, hO⟩ := hrel
      have HIG := Lib.hid hig
      have HCD := Lib.hid hcd
      have HO := Lib.hid hO
      clear hig
      by_cases hi : i < m
      · have el : decide ((i : Int) < (m : Int)) = true := by simp; omega
        have el' : decide (i < m) = true := by simp; omega
        have hil : i < d.steps.length := by rw [HNS.out]; omega
        obtain ⟨s, hs⟩ : ∃ s, d.steps[i]? = some s := ⟨_, List.getElem?_eq_getElem hil⟩
        have hok := hw.chain.at_ hs
        have htw := (hw.chain.take i).tw hw.safe
        have hft := foldS_take (l := d.safe) hs
        have hfl := foldS_len (d.steps.take i) d.safe
        have hnm := hw.names
        rw [List.length_take] at hfl
        obtain ⟨L, hL⟩ : ∃ L, (d.steps.take i).foldl applyS d.safe = L := ⟨_, rfl⟩
        rw [hL] at hok htw hft hfl hcd
        obtain ⟨fs, hrow, hfs, hall⟩ := hcd.steps
        have e1 : ({ d with things := L } : Ds).steps.length = ns := HNS.out
        have hfl2 : fs.length = ns := by rw [hfs]; exact e1
        obtain ⟨f, hf⟩ : ∃ f, fs[i]? = some f := ⟨_, List.getElem?_eq_getElem (by rw [hfl2]; omega)⟩
        have hst := hall i s f hs hf
        obtain ⟨F, C, rfl⟩ := hst.fn
        have hown := hrow.1
        rw [e1, HSV.out] at hown
        obtain ⟨g, hX2⟩ : ∃ g, X2 = some ⟨g, 0, none⟩ := by
          rcases hown.2 with ⟨h1, h0⟩ | ⟨g, cap, cur, h1, _⟩
          · omega
          · injection h1 with h1; exact ⟨g, h1⟩
        subst hX2
        have kf : wr.cell? ⟨g, i, none⟩ = some (.func (.func F) #[] C) := by rw [World.ownsRow.cellAt hown i (by omega)]; exact hf
        have j0 : wr.cell? ⟨p, 0, none⟩ = some (.map (some x)) := by rw [← HP1.out, ← HMD.out]; exact Blk.cell hcd.blk 0
        have j1 : wr.cell? ⟨p, 1, none⟩ = some (.map (some y)) := by rw [← HP1.out, ← HMF.out]; exact Blk.cell hcd.blk 1
        have HDO := Lib.hid (do_calls (R := R1) (φ := A1.φ) (md := x) (mf := y) s F C htw hok (by omega) (by rw [← HMD.out]; exact hcd.dirs.1) (by rw [← HMF.out]; exact hcd.files.1) (by rw [← HMD.out, ← HMF.out]; exact hcd.md_mf) hst)
        have heg := step_enters hst
        have HFT := Lib.hid hft
        have him : (i : Int) < (m : Int) := by omega
        have HCL := Lib.hid hcd
        have hmc : m ≤ c2 := by omega
        clear hs hok htw hft hfl hL hrow hfs hall hf hst hown hcd hO HCD
        go_wp2_with fail
        refine HDO.out.mono ?_
        rintro _ w4 ⟨rfl, hd4, hf4, hO4⟩
        clear heg
        rw [← HMD.out, ← HMF.out] at hO4
        rw [← HMD.out] at hd4
        rw [← HMF.out] at hf4
        have hcd4 := HCL.out.maps_only hO4 hd4 hf4
        have hO5 := HO.out.trans (Own.of_two HCL.out hO4)
        have hcd5 : CD B0 w4 R1 A1 { d with things := (d.steps.take (i + 1)).foldl applyS d.safe } := by rw [HFT.out]; exact hcd4
        clear hcd4 hO4 hd4 hf4 kf j0 j1
        go_wp2_with fail
        go_roundg (gk - 1)
        case measure => have := HIG.out; omega
        case rel => exact ⟨i + 1, by have := HIG.out; omega, by go_num, hcd5, hO5⟩
      · have el : decide ((i : Int) < (m : Int)) = false := by simp; omega
        have el' : decide (i < m) = false := by simp; omega
        have hig := HIG.out
        obtain rfl : i = m := by omega
        clear hcd hO hig
        go_wp2_with fail
        go_meet
        exact ⟨HCD.out, HO.out⟩
  case rest =>
    obtain ⟨hcd, hO⟩ := hcut
    obtain ⟨w5, rfl⟩ : ∃ x, x = wc := ⟨_, rfl⟩
    have htw := (hw.chain.take m).tw hw.safe
    have hfl := foldS_len (d.steps.take m) d.safe
    have hnm := hw.names
    rw [List.length_take] at hfl
    obtain ⟨L, hL⟩ : ∃ L, (d.steps.take m).foldl applyS d.safe = L := ⟨_, rfl⟩
    rw [hL] at htw hfl hcd HE
    have hsy : SM w5 y (filF A1.φ L) := by rw [← HMF.out]; exact hcd.files.1
    obtain ⟨kv, hk1, hk2⟩ := keysF_calls y (filF A1.φ L) w5 hsy (L.map Th.path) (fun x hx => filF_in hx) (by rw [List.length_map]; omega)
    have j1 : w5.cell? ⟨p, 1, none⟩ = some (.map (some y)) := by rw [← HP1.out, ← HMF.out]; exact Blk.cell hcd.blk 1
    have hpl5 : p < w5.heap.size := lt_of_cell j1
    have HK1 := Lib.hid hk1
    have HK2 := Lib.hid hk2
    have HCD := Lib.hid hcd
    have HO := Lib.hid hO
    have HTW := Lib.hid htw
    have hLz : L.length ≤ 1073741824 := by omega
    clear hk1 hk2 hcd hO htw hL hsy HCD3 HO3
    go_wp2_with fail
    refine HK1.out.mono ?_
    rintro _ w6 ⟨rfl, rfl⟩
    go_wp2_with fail
    refine HK2.out.mono ?_
    rintro _ w7 ⟨Ak, ck, ks, rfl, hks, hkc, hasc, hmem, hkfr, hb7⟩
    have hnames : (sortedF L).map En.name = ks := sortedF_names HTW.out.nodup hasc (fun z => by rw [hmem z, filF_one HTW.out, isT_one HTW.out.nodup])
    obtain ⟨S, hS⟩ : ∃ S, sortedF L = S := ⟨_, rfl⟩
    have hSmem : ∀ e ∈ S, ∃ x ∈ L, x.dir = false ∧ e = ⟨x.path, false, x.at_⟩ := fun e he => sortedF_mem.1 (by rw [hS]; exact he)
    rw [hS] at hnames HE
    obtain ⟨KN, hKN⟩ : ∃ n, ks.length = n := ⟨_, rfl⟩
    have hSN : S.length = KN := by rw [← hKN, ← hnames, List.length_map]
    have hKz : KN ≤ 1073741824 := by
      rw [← hSN, ← hS]
      unfold sortedF
      rw [(sortE_perm _).length_eq, List.length_map]
      exact Nat.le_trans (List.length_filter_le _ _) hLz
    rw [hKN] at hks hkc ⊢
    have hcd7 := HCD.out.below hb7
    have hO7 := HO.out.trans (Own.of_below (R := R1) hb7)
    have hkr : ∀ a, Ak = some a → R1 a.block = 0 := fun a ha => HCD.out.inw.new (hkfr a ha)
    have HKS := Lib.hid hks
    have HKR := Lib.hid hkr
    have HNM := Lib.hid hnames
    have HSM := Lib.hid hSmem
    have HSN := Lib.hid hSN
    have HC7 := Lib.hid hcd7
    have HO7 := Lib.hid hO7
    clear hks hkc hasc hmem hkfr hb7 hnames hS hSmem hKN hSN hcd7 hO7 hkr j1 hpl5
    go_wp2_with fail
    go_loopg [55] KN (fun g s55 wr => ∃ i : Nat, i + g = KN ∧ s55 = .int .i64 (i : Int) ∧ CD B0 wr R1 A1 { d with things := L, files := keepAll data zeros (S.take i) 0 d.files } ∧ Own R1 R1 w7 wr)
    case atStart => exact ⟨0, by omega, rfl, HC7.out, Own.refl _ _⟩
    case round =>
      obtain ⟨i, hig, rfl, hcd, hOr⟩ := hrel
      have HIG := Lib.hid hig
      have HOR := Lib.hid hOr
      clear hig
      by_cases hi : i < KN
      · have el : decide ((i : Int) < (KN : Int)) = true := by simp; omega
        have el' : decide (i < KN) = true := by simp; omega
        have hiKN : (i : Int) < (KN : Int) := by omega
        have hil : i < S.length := by rw [HSN.out]; exact hi
        have hkt := keepAll_take data zeros S d.files hil
        obtain ⟨th, hth, hthd, hthe⟩ := HSM.out S[i]! (by rw [getElem!_pos S i hil]; exact List.getElem_mem hil)
        have hkn : ks[i]! = th.path := by
          have h1 : ks[i]? = some (S[i]!.name) := by
            rw [← HNM.out, List.getElem?_map, List.getElem?_eq_getElem hil, getElem!_pos S i hil]
            rfl
          have hil2 : i < ks.length := (List.getElem?_eq_some_iff.1 h1).1
          rw [getElem!_pos ks i hil2]
          rw [List.getElem?_eq_getElem hil2] at h1
          injection h1 with h1
          rw [h1, hthe]
        have hidx := HTW.out.ats th hth hthd
        have hsz : S[i]!.size = th.at_ := by rw [hthe]
        rw [hsz] at hkt
        obtain ⟨idx, hix⟩ : ∃ n, th.at_ = n := ⟨_, rfl⟩
        have hval : filF A1.φ L th.path = some (fptr A1.φ idx) := (filF_iff HTW.out.nodup).2 ⟨th, hth, hthd, rfl, by rw [hix]⟩
        have hpz : th.path.length ≤ 1073741824 := paths_short HTW.out th.path (List.mem_map.2 ⟨th, hth, rfl⟩)
        rw [hix] at hkt hidx
        obtain ⟨bk, ok, hAk, hbk, kk⟩ := HKS.out.at_ hi
        have hRk := HKR.out _ hAk
        have mk := cell_own hOr kk hRk
        rw [hkn] at mk
        subst hAk
        obtain ⟨N, hN⟩ : ∃ N : ByteArray, (⟨th.path.toArray⟩ : ByteArray) = N := ⟨_, rfl⟩
        have hNl : N.data.toList = th.path := by rw [← hN]
        unfold txtV at mk
        rw [hN] at mk
        have hsy : SM wr y (filF A1.φ L) := by rw [← HMF.out]; exact hcd.files.1
        have hlk : (Instr.lookup 120 (.map (some y)) (.string N) false).run Tryz.prog wr = .ok (fptr A1.φ idx) wr := by
          have := SMap.look hsy Tryz.underlying9 Tryz.underlying120 (zeroFl wr) (s := N) (by rw [← text_size3, hNl]; unfold maxLen; omega)
          rw [hNl, hval] at this
          exact this
        have j1 : wr.cell? ⟨p, 1, none⟩ = some (.map (some y)) := by rw [← HP1.out, ← HMF.out]; exact Blk.cell hcd.blk 1
        have hlenk : (keepAll data zeros (S.take i) 0 d.files).length = d.files.length := keepAll_len _ _ _ _ _
        have hokk := keepAll_ok (M := M) data zeros (S.take i) 0 d.files hw.files
        obtain ⟨fs, hfs⟩ : ∃ fs, keepAll data zeros (S.take i) 0 d.files = fs := ⟨_, rfl⟩
        rw [hfs] at hcd hkt hlenk hokk
        have hxl : idx < ({ d with things := L, files := fs } : Ds).files.length := by show idx < fs.length; rw [hlenk]; exact hidx
        have hfm := file_at hcd hxl
        have hfa : fAt ({ d with things := L, files := fs } : Ds) idx = fs[idx]?.getD default := rfl
        rw [hfa] at hfm
        have hfok : FOk M (fs[idx]?.getD default) := by
          rw [List.getElem?_eq_getElem (by rw [hlenk]; exact hidx)]
          exact hokk _ (List.getElem_mem _)
        obtain ⟨F, hF⟩ : ∃ F, fs[idx]?.getD default = F := ⟨_, rfl⟩
        rw [hF] at hfm hkt hfok
        obtain ⟨v, hblk, hRb, hrow⟩ := hfm
        obtain ⟨b, hb⟩ : ∃ b, A1.φ[idx]?.getD 0 = b := ⟨_, rfl⟩
        have hfp : fptr A1.φ idx = .pointer (some ⟨b, 0, none⟩) := by unfold fptr; rw [hb]
        rw [hb] at hblk hRb
        rw [hfp] at hlk
        have hvb : v.ownBlock ≠ some b := fun e => by have := hrow.2 b e; omega
        obtain ⟨wv, hwv⟩ : ∃ u, wishAt3 data i = u := ⟨_, rfl⟩
        have hwb : -9223372036854775808 ≤ wv ∧ wv ≤ 9223372036854775807 := by
          rw [← hwv]
          unfold wishAt3
          split
          · omega
          · rename_i hne
            have hp : 0 < data.length := List.length_pos_iff.2 hne
            have hm := Nat.mod_lt i hp
            rw [List.getElem?_eq_getElem hm]
            exact HDB.out _ (List.getElem_mem hm)
        have hKC := keep_calls b F v wv zeros wr hblk hrow.1 hvb hwb.1 hwb.2 M (by omega) hfok.ok (by have := hfok.sum; omega) (by have := hfok.sum; omega) (by have := hfok.sl; omega)
        obtain ⟨kt, hktx⟩ : ∃ t, (keepF F wv zeros).now = t := ⟨_, rfl⟩
        have hkp : keepF F wv zeros = ⟨kt, kt, []⟩ := by rw [← hktx]; rfl
        rw [hkp] at hKC
        have hkt2 : keepAll data zeros (S.take (i + 1)) 0 d.files = fs.set idx ⟨kt, kt, []⟩ := by
          rw [hkt, ← hkp, ← hwv]
          rfl
        have HKC := Lib.hid hKC
        have HKT := Lib.hid hkt2
        have HXL := Lib.hid hxl
        have HCD2 := Lib.hid hcd
        have HRB := Lib.hid hRb
        have HB := Lib.hid hb
        have HDO := Lib.hid (HO7.out.trans hOr)
        have hpr : p < wr.heap.size := lt_of_cell j1
        clear hkt hth hthd hthe hkn hidx hsz hval hpz kk hRk hNl hN hsy hlenk hokk hfs hxl hfa hfok hF hblk hRb hrow hb hfp hvb hKC hktx hkp hkt2 hcd hOr hix
        have hnext : ∀ w8, KeepOut b ⟨kt, kt, []⟩ wr (.returned (.tuple #[])) w8 → CD B0 w8 R1 A1 { d with things := L, files := keepAll data zeros (S.take (i + 1)) 0 d.files } ∧ Own R1 R1 w7 w8 := by
          rintro w8 ⟨_, hbl8, hO8⟩
          have hk8 : ∀ k, R1 k ≠ 10 + 2 * idx → k < wr.heap.size → w8.heap[k]? = wr.heap[k]? := fun k hk hkl => hO8.block k hkl (two_ne (fun e => hk (by rw [e]; exact HRB.out)) (fun e => hk (by rw [e]; exact HRB.out)))
          rw [HKT.out]
          refine ⟨HCD2.out.file_only HXL.out (fun k h0 h1 _ => ⟨hk8 k h1 (HCD2.out.inw k h0), rfl⟩) (HCD2.out.inw.mono hO8.size) HCD2.out.low ?_, HOR.out.trans ⟨hO8.os, hO8.tape, hO8.output, hO8.size, fun k hk hr => hk8 k (by omega) hk, fun _ _ => rfl⟩⟩
          rw [HB.out]
          exact ⟨.slice none 0 0, hbl8, HRB.out, RowIs.nil⟩
        have HNX := Lib.hid hnext
        clear hnext
        by_cases hnd0 : nd = 0
        · have g1 : decide ((0 : Int) < (nd : Int)) = false := by simp; omega
          have g2 : decide (0 < nd) = false := by simp; omega
          have hw0 : wv = 0 := by
            rw [← hwv]
            unfold wishAt3
            rw [if_pos (List.eq_nil_of_length_eq_zero (by rw [Elems.len HDAT.out]; exact hnd0))]
          subst hw0
          clear hwv hnd0
          go_wp2_with fail
          refine HKC.out.mono ?_
          rintro e w8 hK8
          obtain ⟨hc8, hO8⟩ := HNX.out w8 ⟨rfl, hK8.2⟩
          obtain ⟨rfl, _⟩ := hK8
          clear hlk j1 mk
          go_wp2_with fail
          go_roundg (gk - 1)
          case measure => have := HIG.out; omega
          case rel => exact ⟨i + 1, by have := HIG.out; omega, by go_num, hc8, hO8⟩
        · have g1 : decide ((0 : Int) < (nd : Int)) = true := by simp; omega
          have g2 : decide (0 < nd) = true := by simp; omega
          have hln := Elems.len HDAT.out
          have hne : data ≠ [] := fun e => by rw [e] at hln; exact hnd0 (by simpa using hln.symm)
          have hmod := Nat.mod_lt i (show 0 < nd by omega)
          obtain ⟨bd, od, hAd, hbd, kd⟩ := HDAT.out.at_ hmod
          have hRbd := HDR.out _ hAd (by omega)
          have md' := cell_own HDO.out kd hRbd
          subst hAd
          obtain ⟨r, hr⟩ : ∃ r, i % nd = r := ⟨_, rfl⟩
          have hrr : (i : Int) % (nd : Int) = (r : Int) := by omega
          have hval : data[i % nd]! = wv := by
            rw [← hwv]
            unfold wishAt3
            rw [if_neg hne, hln, getElem!_pos data (i % nd) (by rw [hln]; exact hmod), List.getElem?_eq_getElem (by rw [hln]; exact hmod)]
            rfl
          rw [hval, hr] at md'
          rw [hr] at hmod
          have hrn : (r : Int) < (nd : Int) := by omega
          have hmin : (i : Int).tmod (nd : Int) = (r : Int) := by rw [Int.tmod_eq_emod_of_nonneg (by omega)]; exact hrr
          clear hwv hnd0 hln hne hr hval kd hRbd
          go_wp2_with fail
          refine HKC.out.mono ?_
          rintro e w8 hK8
          obtain ⟨hc8, hO8⟩ := HNX.out w8 ⟨rfl, hK8.2⟩
          obtain ⟨rfl, _⟩ := hK8
          clear hlk j1 mk md' hrr hmin
          go_wp2_with fail
          go_roundg (gk - 1)
          case measure => have := HIG.out; omega
          case rel => exact ⟨i + 1, by have := HIG.out; omega, by go_num, hc8, hO8⟩
      · have el : decide ((i : Int) < (KN : Int)) = false := by simp; omega
        have el' : decide (i < KN) = false := by simp; omega
        have htk : S.take i = S := List.take_of_length_le (by rw [HSN.out]; omega)
        rw [htk] at hcd
        have hsx : SM wr x (dirF L) := by rw [← HMD.out]; exact hcd.dirs.1
        have hsy : SM wr y (filF A1.φ L) := by rw [← HMF.out]; exact hcd.files.1
        have HTW2 := Lib.hid (twinD_calls x y (dirF L) (filF A1.φ L) wr hsx hsy)
        have j0 : wr.cell? ⟨p, 0, none⟩ = some (.map (some x)) := by rw [← HP1.out, ← HMD.out]; exact Blk.cell hcd.blk 0
        have j1 : wr.cell? ⟨p, 1, none⟩ = some (.map (some y)) := by rw [← HP1.out, ← HMF.out]; exact Blk.cell hcd.blk 1
        have hpr : p < wr.heap.size := lt_of_cell j1
        have HC9 := Lib.hid hcd
        clear hsx hsy htk hcd hOr
        go_wp2_with fail
        refine HTW2.out.mono ?_
        rintro _ w9 ⟨x2, y2, rfl, hx2, hy2, hxy2, hxl2, hyl2, hb9⟩
        have hBr : B0 ≤ wr.heap.size := by have := (HO7.out.trans HOR.out).size; omega
        obtain ⟨hcd9, hO9⟩ := HC9.out.resafe hb9 hx2 hy2 hxy2 hxl2 hyl2 hBr
        obtain ⟨hcd10, hO10⟩ := hcd9.lights
        have hblk := HC9.out.blk
        unfold DBlk at hblk
        have hblk9 := hblk.below hb9 hblk.lt
        rw [HP1.out] at hblk9
        obtain ⟨sd2, hsd2⟩ : ∃ x, A1.sd = x := ⟨_, rfl⟩
        obtain ⟨sf2, hsf2⟩ : ∃ x, A1.sf = x := ⟨_, rfl⟩
        rw [hsd2, hsf2, HSV.out] at hblk9
        have q2 : w9.cell? ⟨p, 2, none⟩ = some (.map (some sd2)) := hblk9.cell 2
        have q3 : w9.cell? ⟨p, 3, none⟩ = some (.map (some sf2)) := hblk9.cell 3
        have q4 : w9.cell? ⟨p, 4, none⟩ = some (.slice X2 ns c2) := hblk9.cell 4
        have q6 : w9.cell? ⟨p, 6, none⟩ = some (.bool d.off) := hblk9.cell 6
        have q7 : w9.cell? ⟨p, 7, none⟩ = some (.int .i64 (d.await : Int)) := hblk9.cell 7
        have f2 := hblk9.frozen 2
        have f3 := hblk9.frozen 3
        have f4 := hblk9.frozen 4
        have f6 := hblk9.frozen 6
        have f7 := hblk9.frozen 7
        have hpl9 : p < w9.heap.size := lt_of_cell q2
        have hfin : RestOut B0 R A (restartD d nst data zeros) w (.returned (.tuple #[])) (((((w9.setCell ⟨p, 2, none⟩ (.map (some x2))).setCell ⟨p, 3, none⟩ (.map (some y2))).setCell ⟨p, 4, none⟩ (.slice none 0 0)).setCell ⟨p, 6, none⟩ (.bool false)).setCell ⟨p, 7, none⟩ (.int .i64 0)) := by
          rw [HE.out]
          simp only [HP1.out] at hcd9 hO9 hcd10 hO10
          unfold safeW at hcd10 hO9 hO10
          exact ⟨_, _, rfl, hcd10, ((HO7.out.trans HOR.out).trans hO9).trans hO10, HP.out.symm⟩
        have HFIN := Lib.hid hfin
        clear hfin hcd9 hO9 hcd10 hO10 hblk hblk9 hsd2 hsf2 hx2 hy2 hxy2 hxl2 hyl2 hb9 j0 j1
        go_wp2_with fail
        go_end0
        exact HFIN.out
end
end Go.Proofs.YtfpgbhimgfdddaaGreatDoor

/- Layer 3 (disk): the document's disk in memory. -/
namespace Go.Proofs.YtfpgbhimgfdddaaGreatDoor
open Go.RowKit

def encT (x : Th) : List Value := [txtV x.path, .bool x.dir, .int .i64 (x.at_ : Int)]
def encCh (c : Ch) : List Value := [txtV c.text, .bool c.cut, .int .i64 (c.size : Int)]
/-- Where the document's disk lies. -/
structure RAdr where
  q : Nat
  tv : Value
  sv : Value
  gv : Value
  fv : Value
  vs : List Value

section
variable {w w' : World} {R R' : Nat → Nat} {B0 : Nat} {A : RAdr} {d d' : Ds}
end

/-! ### rows read -/
def Ths (w : World) (A : Option Addr) (n : Nat) (l : List Th) : Prop := Elems w w.heap.size 3 encT A n l
theorem Ths.at_ {w : World} {A : Option Addr} {n : Nat} {l : List Th} (h : Ths w A n l) {i : Nat} (hi : i < n) : ∃ b off, A = some ⟨b, off, none⟩ ∧ b < w.heap.size ∧ w.cell? ⟨b, off + i * 3, none⟩ = some (txtV l[i]!.path) ∧ w.cell? ⟨b, off + i * 3 + 1, none⟩ = some (.bool l[i]!.dir) ∧ w.cell? ⟨b, off + i * 3 + 2, none⟩ = some (.int .i64 (l[i]!.at_ : Int)) := by
  obtain ⟨b, off, e, hb, hc⟩ := h.2 (by omega)
  have hl : i < l.length := by have : l.length = n := Elems.len h; omega
  have hx := hc i l[i]! (by rw [getElem!_pos l i hl, List.getElem?_eq_getElem hl])
  exact ⟨b, off, e, hb, by simpa using hx 0 _ rfl, by simpa using hx 1 _ rfl, by simpa using hx 2 _ rfl⟩
theorem Ths.below {w w' : World} {A : Option Addr} {n : Nat} {l : List Th} (h : Ths w A n l) (hb : Below w.heap.size w w') : Ths w' A n l := (Elems.below h hb).more hb.size
end Go.Proofs.YtfpgbhimgfdddaaGreatDoor

/- The walks of layer 3 (disk), the document's: New, find, is, parent, inside, IsPath, step, Crash, share, file. -/
namespace Go.Proofs.YtfpgbhimgfdddaaGreatDoor
open Go.RowKit Go.Shelf Go.Maps Go.Sort
attribute [local go_sem ↓] Go.wp_at_zero Go.wp_at_succ
attribute [local go_sem] Later.cell Later.frozen

theorem ne_facts {S T : ByteArray} (h : S ≠ T) : (S.toList == T.toList) = false ∧ (S == T) = false ∧ decide (S = T) = false ∧ decide (S.toList = T.toList) = false := by
  have hl2 : S.toList ≠ T.toList := fun e => h (by
    rw [ByteArray.toList_eq, ByteArray.toList_eq] at e
    exact bytes_eq e)
  have h1 : (S.toList == T.toList) = false := by simpa using hl2
  exact ⟨h1, by rw [beq_toListBytes]; exact h1, by simpa using h, by simpa using hl2⟩

section
variable {B0 : Nat} {R : Nat → Nat} {A : RAdr} {d : Ds} {w w' : World}

end
end Go.Proofs.YtfpgbhimgfdddaaGreatDoor

/- The walks of layer 3 (disk), the document's: apply. -/
namespace Go.Proofs.YtfpgbhimgfdddaaGreatDoor
open Go.RowKit Go.Shelf Go.Maps Go.Sort
attribute [local go_sem ↓] Go.wp_at_zero Go.wp_at_succ
attribute [local go_sem] Later.cell Later.frozen

/-- What becomes of one thing; what is new. -/
def one : St → Th → List Th
  | .mkdir _, x => [x]
  | .create _ _, x => [x]
  | .remove a, x => if x.path == a || insideB x.path a then [] else [x]
  | .rename a b, x => if x.path == b then [] else [mv a b x]

section
variable {l : List Th} {X : Option Addr} {n c : Nat} {w : World}
end
end Go.Proofs.YtfpgbhimgfdddaaGreatDoor

/- The walks of layer 3 (disk), the document's: Mkdir, Remove, Rename. -/
namespace Go.Proofs.YtfpgbhimgfdddaaGreatDoor
open Go.RowKit Go.Shelf Go.Maps Go.Sort
attribute [local go_sem ↓] Go.wp_at_zero Go.wp_at_succ
attribute [local go_sem] Later.cell Later.frozen

theorem txtV_self (S : ByteArray) : txtV S.data.toList = .string S := by unfold txtV; rw [← bytes_of rfl]
section
variable {B0 : Nat} {R : Nat → Nat} {A : RAdr} {d : Ds}

end
end Go.Proofs.YtfpgbhimgfdddaaGreatDoor

/- The walks of layer 3 (disk), the document's: insert. -/
namespace Go.Proofs.YtfpgbhimgfdddaaGreatDoor
open Go.RowKit Go.Shelf Go.Maps Go.Sort
attribute [local go_sem ↓] Go.wp_at_zero Go.wp_at_succ
attribute [local go_sem] Later.cell Later.frozen

def encE (e : En) : List Value := [txtV e.name, .bool e.dir, .int .i64 (e.size : Int)]
theorem encE_at : ∀ {m : List En} {j : Nat} {e : En} (k : Nat), m[j]? = some e → k < 3 → (m.flatMap encE)[j * 3 + k]? = (encE e)[k]?
  | [], _, _, _, h, _ => by simp at h
  | f :: m, 0, e, k, h, hk => by
    simp at h
    subst h
    rw [List.flatMap_cons, Nat.zero_mul, Nat.zero_add, List.getElem?_append_left (by simpa [encE] using hk)]
  | f :: m, j + 1, e, k, h, hk => by
    rw [List.flatMap_cons, List.getElem?_append_right (by simp [encE]; omega)]
    rw [show (j + 1) * 3 + k - (encE f).length = j * 3 + k by simp [encE]; omega]
    exact encE_at k (by simpa using h) hk

end Go.Proofs.YtfpgbhimgfdddaaGreatDoor
