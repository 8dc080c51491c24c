/- The walks of layer 5 (symbols): lists of lists of labels; Collect, the document's Collect. -/
import Derived.Test.YtpmahljbkgielaaSymWalksF
import Derived.Test.YtpmahljbkgielaaRLabWalksC
import Derived.Test.YtpmahljbkgielaaIter
import Derived.StringKeys
import Derived.Maps.OwnOps
import Derived.Maps.Views
namespace Go.Proofs.Ytpmahljbkgielaa
open Go.RowKit Go.Sort Go.Maps
attribute [local go_sem ↓] Go.wp_at_zero Go.wp_at_succ
attribute [local go_sem] Later.cell Later.frozen

/-- A slice's header. -/
structure Hd where
  A : Option Addr
  n : Nat
  c : Nat
instance : Inhabited Hd := ⟨⟨none, 0, 0⟩⟩
def encH (h : Hd) : List Value := [.slice h.A h.n h.c]
/-- The slice '.slice A n _' reads as the lists of labels L. -/
def Sets (w : World) (A : Option Addr) (n : Nat) (L : List (List Lb)) : Prop :=
  ∃ hs : List Hd, Elems w w.heap.size 1 encH A n hs ∧ L.length = n ∧ ∀ (i : Nat) (h : Hd), hs[i]? = some h → Elems w w.heap.size 2 encLb h.A h.n L[i]! ∧ h.n ≤ h.c
section
variable {w w' : World} {A : Option Addr} {n : Nat} {L : List (List Lb)}
theorem Sets.below (h : Sets w A n L) (hb : Below w.heap.size w w') : Sets w' A n L := by
  obtain ⟨hs, h1, h2, h3⟩ := h
  refine ⟨hs, (h1.below hb).more hb.size, h2, fun i x hx => ?_⟩
  obtain ⟨a, b⟩ := h3 i x hx
  exact ⟨(a.below hb).more hb.size, b⟩
theorem Sets.len (h : Sets w A n L) : L.length = n := by obtain ⟨_, _, h2, _⟩ := h; exact h2
theorem Sets.at_ (h : Sets w A n L) {i : Nat} (hi : i < n) : ∃ b off B m c, A = some ⟨b, off, none⟩ ∧ b < w.heap.size ∧ w.cell? ⟨b, off + i, none⟩ = some (.slice B m c) ∧ Elems w w.heap.size 2 encLb B m L[i]! ∧ m ≤ c := by
  obtain ⟨hs, h1, h2, h3⟩ := h
  obtain ⟨b, off, e, hb, hc⟩ := h1.2 (by omega)
  have hl : i < hs.length := by have := h1.len; omega
  obtain ⟨a1, a2⟩ := h3 i hs[i] (List.getElem?_eq_getElem hl)
  have := hc i hs[i] (List.getElem?_eq_getElem hl) 0 _ rfl
  exact ⟨b, off, _, _, _, e, hb, by simpa using this, a1, a2⟩
end

def allT (L : List (List Lb)) : List Txt := L.flatMap texts
theorem allT_cons (l : List Lb) (L : List (List Lb)) : allT (l :: L) = texts l ++ allT L := rfl
theorem allT_app (L M : List (List Lb)) : allT (L ++ M) = allT L ++ allT M := by simp [allT]
theorem texts_len (l : List Lb) : (texts l).length = 2 * l.length := by
  induction l with
  | nil => rfl
  | cons x l ih => rw [texts_cons, List.length_cons, List.length_cons, ih, List.length_cons]; omega
theorem texts_app (l m : List Lb) : texts (l ++ m) = texts l ++ texts m := by simp [texts]
theorem allT_part {L : List (List Lb)} {i : Nat} (h : i < L.length) : (texts L[i]!).length ≤ (allT L).length := by
  rw [getElem!_pos L i h]
  have hL : L = L.take i ++ L[i] :: L.drop (i + 1) := by rw [← List.drop_eq_getElem_cons h, List.take_append_drop]
  have e : allT L = allT (L.take i) ++ (texts L[i] ++ allT (L.drop (i + 1))) := by
    conv => lhs; rw [hL]
    rw [allT_app, allT_cons]
  rw [e, List.length_append, List.length_append]
  omega
theorem allT_take {L : List (List Lb)} {i : Nat} (h : i < L.length) : allT (L.take (i + 1)) = allT (L.take i) ++ texts L[i]! := by
  rw [List.take_succ_eq_append_getElem h, allT_app, getElem!_pos L i h]
  simp [allT]
theorem allT_take_len {L : List (List Lb)} (i : Nat) : (allT (L.take i)).length ≤ (allT L).length := by
  have : allT L = allT (L.take i) ++ allT (L.drop i) := by rw [← allT_app, List.take_append_drop]
  rw [this]; simp
theorem allT_mem {L : List (List Lb)} {i k : Nat} (h : i < L.length) (hk : k < L[i]!.length) : L[i]![k]!.n ∈ allT L ∧ L[i]![k]!.v ∈ allT L := by
  rw [getElem!_pos L i h] at hk ⊢
  rw [getElem!_pos _ k hk]
  constructor
  · refine List.mem_flatMap.2 ⟨L[i], List.getElem_mem h, List.mem_flatMap.2 ⟨L[i][k], List.getElem_mem hk, by simp⟩⟩
  · refine List.mem_flatMap.2 ⟨L[i], List.getElem_mem h, List.mem_flatMap.2 ⟨L[i][k], List.getElem_mem hk, by simp⟩⟩
theorem texts_take {l : List Lb} {k : Nat} (h : k < l.length) : texts (l.take (k + 1)) = texts (l.take k) ++ [l[k]!.n] ++ [l[k]!.v] := by
  rw [List.take_succ_eq_append_getElem h, texts_app, getElem!_pos l k h]
  simp [texts]

/-! ### the keys of the map -/
theorem law5 : Keyed Try.prog 9 := string_keyed Try.underlying9
theorem zero5 (w : World) : (zeroValue 3).run Try.prog w = .ok (.int .i64 0) w := by kernel_rfl
/-- Block b is a map whose keys are just the texts l. -/
def KeyMap (w : World) (b : Nat) (D : DataW Unit) (l : List Txt) : Prop := w.ownsMap Try.prog 9 (plainElem Try.prog 3) b l.length D ∧ ∀ x : Txt, Maps.has D (.string x) = true ↔ x ∈ l
theorem KeyMap.put {w w' : World} {b : Nat} {D : DataW Unit} {l : List Txt} {x : Txt} {d : DataW Unit} (h : KeyMap w b D l) (hown : w'.ownsMap Try.prog 9 (plainElem Try.prog 3) b (l.length + 1) (D.put (.string x) d)) : KeyMap w' b (D.put (.string x) d) (l ++ [x]) := by
  refine ⟨by rw [List.length_append]; exact hown, fun y => ?_⟩
  by_cases e : y = x
  · subst e
    rw [has_put_same (k := .string y) (h.1.tidy law5).isMap trivial]
    simp
  · rw [has_put_other (by intro h; injection h with h; exact e h), h.2 y]
    simp [e]
theorem perm_tab {D : DataW Unit} {w : World} {b n : Nat} {l ss : List Txt} (hown : w.ownsMap Try.prog 9 (plainElem Try.prog 3) b n D) (hk : ∀ x : Txt, Maps.has D (.string x) = true ↔ x ∈ l) (hp : ss.Perm (strKeys D)) : IsTab l (ss.mergeSort fun x y => decide (x ≤ y)) := by
  obtain ⟨es, rfl, hpw⟩ := hown.tidy law5
  obtain ⟨es', e', hko⟩ := hown.keysOf
  injection e' with e'
  subst e'
  have hstr : ∀ p ∈ es, ∃ x, p.1 = .string x := fun p hp => by
    obtain ⟨v, hv⟩ := hko p hp
    obtain ⟨x, _, hx, _⟩ := Maps.keyOf_str Try.underlying9 hv
    exact ⟨x, hx⟩
  have hnd : (strKeys (.map es)).Nodup := by
    show (es.map fun p => strOf p.1).Nodup
    refine List.pairwise_map.2 (hpw.imp_of_mem fun {p q} hp' hq' hne e => hne ?_)
    obtain ⟨a, ha⟩ := hstr p hp'
    obtain ⟨b, hb⟩ := hstr q hq'
    rw [ha, hb] at e ⊢
    exact congrArg _ e
  have hmem : ∀ x, x ∈ strKeys (.map es) ↔ x ∈ l := by
    intro x
    rw [← hk x, has_eq, List.any_eq_true]
    show x ∈ es.map (fun p => strOf p.1) ↔ _
    rw [List.mem_map]
    constructor
    · rintro ⟨p, hp, rfl⟩
      obtain ⟨a, ha⟩ := hstr p hp
      exact ⟨p, hp, by rw [ha]; simp [strOf, Lit.sameKey]⟩
    · rintro ⟨p, hp, e⟩
      obtain ⟨a, ha⟩ := hstr p hp
      rw [ha] at e
      exact ⟨p, hp, by rw [ha]; simpa [strOf, Lit.sameKey] using e⟩
  have hsorted : (ss.mergeSort fun x y => decide (x ≤ y)).Pairwise (fun a b => a ≤ b) := by
    have := List.pairwise_mergeSort (le := fun x y : Txt => decide (x ≤ y)) (by intro a b c; simp; exact List.le_trans) (by intro a b; simp; exact List.le_total a b) ss
    simpa using this
  have hperm := (List.mergeSort_perm ss fun x y => decide (x ≤ y)).trans hp
  have hnd' := (hperm.nodup_iff).2 hnd
  refine ⟨?_, fun x => ?_⟩
  · unfold Asc
    refine (hsorted.and hnd').imp ?_
    rintro a b ⟨h1, h2⟩
    exact txt_lt_ne h1 (Ne.symm h2)
  · rw [← hmem x]
    exact hperm.mem_iff
theorem KeyMap.below {w w' : World} {b : Nat} {D : DataW Unit} {l : List Txt} (h : KeyMap w b D l) (hb : Below w.heap.size w w') : KeyMap w' b D l :=
  ⟨h.1.kept (row := none) ⟨hb.os, hb.tape, hb.output, hb.size, fun k hk _ => hb.block k hk⟩ (by simp), h.2⟩
theorem below_put {w w0 w' : World} {B b : Nat} (h : Below B w w0) (hg : w0.grownBy w' (some b)) (hb : B ≤ b) (hB : B ≤ w0.heap.size) : Below B w w' :=
  h.trans ⟨hg.os, hg.tape, hg.output, hg.size, fun k hk => hg.block k (by omega) (fun e => by injection e with e; omega)⟩

set_option maxRecDepth 100000 in
set_option maxHeartbeats 2000000 in
theorem collect_calls (L : List (List Lb)) (A : Option Addr) (n c : Nat) (w : World) (hS : Sets w A n L) (hn : n ≤ 1048576) (hall : (allT L).length ≤ 1048576) (hz : ∀ x ∈ allT L, x.length ≤ 1048576) :
    Calls Try.prog 21 #[.slice A n c] w (OfOut w (allT L)) := by
  have hmm := @run_makeMap Try.prog
  have hL := hS.len
  have HL := Lib.hid hL
  have HZ := Lib.hid hz
  clear hL hz
  go_enter Try.func21, Try.ntmps21
  go_upto_block 0 with fail
  go_cut [3] (fun s3 wz => ∃ D, s3 = .map (some w.heap.size) ∧ KeyMap wz w.heap.size D (allT L) ∧ Below w.heap.size w wz)
  case first =>
    go_wp2_with fail
    go_loopg [11] n (fun g s11 wr => ∃ (i : Nat) (D : DataW Unit), i + g = n ∧ s11 = .int .i64 (i : Int) ∧ KeyMap wr w.heap.size D (allT (L.take i)) ∧ Below w.heap.size w wr)
    case atStart => exact ⟨0, _, by omega, rfl, ⟨World.ownsMap_made _ _ _ _, fun x => by simp [allT, Maps.has]⟩, (Below.refl _ _).alloc (Nat.le_refl _) _⟩
    case round =>
      obtain ⟨i, D, hig, rfl, hkm, hB⟩ := hrel
      have HIG := Lib.hid hig
      clear hig
      by_cases hi : i < n
      · have el : decide ((i : Int) < (n : Int)) = true := by simp; omega
        have el' : decide (i < n) = true := by simp; omega
        have hiL : i < L.length := by have := HL.out; omega
        obtain ⟨b, off, C, m, d, rfl, hbl, hcell, hE, hmd⟩ := hS.at_ hi
        have hcr := (hB.cell (p := ⟨b, off + i, none⟩) hbl).trans hcell
        have htl := allT_take_len (L := L) i
        have htk := allT_take hiL
        have hpart := allT_part hiL
        have hmem := fun k hk => allT_mem (L := L) (i := i) (k := k) hiL hk
        obtain ⟨l, hl⟩ : ∃ l, L[i]! = l := ⟨_, rfl⟩
        rw [hl] at hE htk hpart hmem
        have hll := hE.len
        rw [texts_len, hll] at hpart
        have hsum : (allT (L.take i)).length + 2 * m ≤ 1048576 := by
          have h1 := allT_take_len (L := L) (i + 1)
          rw [htk, List.length_append, texts_len, hll] at h1
          omega
        obtain ⟨T, hT⟩ : ∃ T, allT (L.take i) = T := ⟨_, rfl⟩
        rw [hT] at hkm htk hsum
        have HTK := Lib.hid htk
        have HLL := Lib.hid hll
        have HMEM := Lib.hid hmem
        clear hcell htl htk hmem hl hll hT hiL
        go_upto_block 1 with fail
        go_cut [] (fun wz => ∃ D, KeyMap wz w.heap.size D (T ++ texts l) ∧ Below w.heap.size w wz)
        case first =>
          go_wp2_with fail
          go_loopg [17] m (fun g s17 wz => ∃ (k : Nat) (D : DataW Unit), k + g = m ∧ s17 = .int .i64 (k : Int) ∧ KeyMap wz w.heap.size D (T ++ texts (l.take k)) ∧ Below w.heap.size w wz)
          case atStart => exact ⟨0, D, by omega, rfl, by simpa [texts] using hkm, hB⟩
          case round =>
            obtain ⟨k, D, hkg, rfl, hkm, hB⟩ := hrel
            have HKG := Lib.hid hkg
            clear hkg
            by_cases hk : k < m
            · have ek : decide ((k : Int) < (m : Int)) = true := by simp; omega
              have ek' : decide (k < m) = true := by simp; omega
              have hkl : k < l.length := by have := HLL.out; omega
              obtain ⟨bb, oo, rfl, _, _⟩ := hE.2 (by omega)
              obtain ⟨hbl2, c0, c1⟩ := lab_at hE (by omega) hB k hkl
              obtain ⟨hm1, hm2⟩ := HMEM.out k hkl
              have z1 := HZ.out _ hm1
              have z2 := HZ.out _ hm2
              have htk := texts_take hkl
              obtain ⟨x, hx⟩ : ∃ x, l[k]! = x := ⟨_, rfl⟩
              rw [hx] at c0 c1 z1 z2 htk
              obtain ⟨N, hN⟩ : ∃ N : ByteArray, (⟨x.n.toArray⟩ : ByteArray) = N := ⟨_, rfl⟩
              obtain ⟨V, hV⟩ : ∃ N : ByteArray, (⟨x.v.toArray⟩ : ByteArray) = N := ⟨_, rfl⟩
              rw [hN] at c0
              rw [hV] at c1
              have hNn : N.data.toList = x.n := by rw [← hN]
              have hVv : V.data.toList = x.v := by rw [← hV]
              have hNz : N.size ≤ maxLen := by rw [← text_size, hNn]; unfold maxLen; omega
              have hVz : V.size ≤ maxLen := by rw [← text_size, hVv]; unfold maxLen; omega
              have kN := Go.WideMaps.keyOf_string_mk (P := Try.prog) Try.underlying9 hNz
              have kV := Go.WideMaps.keyOf_string_mk (P := Try.prog) Try.underlying9 hVz
              rw [hNn] at kN
              rw [hVv] at kV
              have hUl : (T ++ texts (l.take k)).length + 2 ≤ 1048576 := by
                rw [List.length_append, texts_len, List.length_take]
                omega
              obtain ⟨U, hU⟩ : ∃ U, T ++ texts (l.take k) = U := ⟨_, rfl⟩
              have hnext : T ++ texts (l.take (k + 1)) = U ++ [x.n] ++ [x.v] := by rw [htk, ← hU]; simp
              rw [hU] at hkm hUl
              have HNEXT := Lib.hid hnext
              have KN := Lib.hid kN
              have KV := Lib.hid kV
              clear hx hN hV hNn hVv hNz hVz kN kV hU hnext htk hm1 hm2 z1 z2
              go_upto_region 8 with fail
              have hB1 : Below w.heap.size w (wr.alloc (.cells #[.string N, .string V] 69)) := hB.alloc hB.size _
              have hq : Blk (wr.alloc (.cells #[.string N, .string V] 69)) wr.heap.size 69 #[.string N, .string V] := Blk.new _ _ _
              have hkm1 : KeyMap (wr.alloc (.cells #[.string N, .string V] 69)) w.heap.size D U := hkm.below ((Below.refl _ _).alloc (Nat.le_refl _) _)
              have hqne : w.heap.size ≠ wr.heap.size := by have := hkm.1.lt; omega
              obtain ⟨v1, hv1⟩ : ∃ w1, wr.alloc (.cells #[.string N, .string V] 69) = w1 := ⟨_, rfl⟩
              obtain ⟨q, hqq⟩ : ∃ p, wr.heap.size = p := ⟨_, rfl⟩
              rw [hv1] at hB1 hq hkm1 ⊢
              rw [hqq] at hq hqne ⊢
              clear hv1 hqq c0 c1 hB hkm
              have q0 : _ = some (Value.string N) := hq.cell 0
              have q1 : _ = some (Value.string V) := hq.cell 1
              go_wp2_with (at_lookup; refine wpList_lookup_own_int _ rfl _ _ 84 rfl 9 3 .i64 law5 Try.underlying84 Try.underlying3 (zero5 _) w.heap.size U.length D rfl hkm1.1 _ _ rfl KN.out ?_)
              intro cn _ hwc
              go_wp2_with (at_mapUpdate; refine wpList_mapUpdate_own _ rfl _ _ _ 84 rfl 9 3 law5 Try.underlying84 _ w.heap.size U.length D rfl hkm1.1 (by unfold maxLen; omega) _ _ _ rfl rfl KN.out _ [] (plainElem_int Try.underlying3 (wrap64_wf _)) ?_)
              intro v2 hown2 hgrow2
              have hkm2 := hkm1.put hown2
              have hq2 := hq.grown hgrow2 (by simpa using Ne.symm hqne)
              have hB2 := below_put hB1 hgrow2 (Nat.le_refl _) hB1.size
              have q1' : _ = some (Value.string V) := hq2.cell 1
              clear hown2 hgrow2 hkm1 q0 q1 hq hB1
              go_wp2_with (at_lookup; refine wpList_lookup_own_int _ rfl _ _ 84 rfl 9 3 .i64 law5 Try.underlying84 Try.underlying3 (zero5 _) w.heap.size (U ++ [x.n]).length _ rfl hkm2.1 _ _ rfl KV.out ?_)
              intro cv _ hwv
              go_wp2_with (at_mapUpdate; refine wpList_mapUpdate_own _ rfl _ _ _ 84 rfl 9 3 law5 Try.underlying84 _ w.heap.size (U ++ [x.n]).length _ rfl hkm2.1 (by unfold maxLen; simp; omega) _ _ _ rfl rfl KV.out _ [] (plainElem_int Try.underlying3 (wrap64_wf _)) ?_)
              intro v3 hown3 hgrow3
              have hkm3 := hkm2.put (by rw [List.length_append]; exact hown3)
              have hB3 := below_put hB2 hgrow3 (Nat.le_refl _) hB2.size
              clear hown3 hgrow3 hkm2 q1' hq2 hB2
              go_wp2_with fail
              go_roundg (gk - 1)
              case measure => have := HKG.out; omega
              case rel => exact ⟨k + 1, _, by have := HKG.out; omega, by go_num, by rw [HNEXT.out]; exact hkm3, hB3⟩
            · have ek : decide ((k : Int) < (m : Int)) = false := by simp; omega
              have ek' : decide (k < m) = false := by simp; omega
              have htk : l.take k = l := List.take_of_length_le (by have := HLL.out; omega)
              rw [htk] at hkm
              clear htk
              go_wp2_with fail
              go_meet
              exact ⟨D, hkm, hB⟩
        case rest =>
          obtain ⟨D', hkm', hB'⟩ := hcut
          obtain ⟨wx, rfl⟩ : ∃ x, x = wc := ⟨_, rfl⟩
          go_wp2_with fail
          go_roundg (gk - 1)
          case measure => have := HIG.out; omega
          case rel => exact ⟨i + 1, D', by have := HIG.out; omega, by go_num, by rw [HTK.out]; exact hkm', hB'⟩
      · have el : decide ((i : Int) < (n : Int)) = false := by simp; omega
        have el' : decide (i < n) = false := by simp; omega
        have htk : L.take i = L := List.take_of_length_le (by have := HL.out; omega)
        rw [htk] at hkm
        clear htk
        go_wp2_with fail
        go_meet
        exact ⟨D, rfl, hkm, hB⟩
  case rest =>
    obtain ⟨D, rfl, hkm, hB⟩ := hcut
    obtain ⟨w1, rfl⟩ : ∃ x, x = wc := ⟨_, rfl⟩
    have hkeys := callsIn_wide.1 (Try.maps_Keys_44 (some w.heap.size) w1)
    have hsz : Maps.size D ≤ 1048576 := by
      obtain ⟨es, clock, _, _, hs, hD⟩ := hkm.1
      rw [hD, size_eq, length_sorted, List.length_map, Array.length_toList]
      omega
    have hsorted := callsIn_wide.1 (Try.slices_Sorted_keys_43_44 w.heap.size (allT L).length D _ w1 hkm.1 (by unfold maxLen; omega) (by omega))
    have HK := Lib.hid hkeys
    have HSO := Lib.hid hsorted
    clear hkeys hsorted
    go_wp2_with fail
    refine HK.out.mono ?_
    rintro e w2 ⟨rfl, rfl⟩
    go_wp2_with fail
    refine HSO.out.mono ?_
    rintro e w3 ⟨v, ss, rfl, hP, hrow, _, hb3⟩
    have htab := perm_tab hkm.1 hkm.2 hP
    have hB2 : Below w.heap.size w (w1.alloc (.cells #[.map (some w.heap.size)] 84)) := hB.alloc hB.size _
    have hB3 := then_ hB2 hb3
    have hlen : (ss.mergeSort fun x y => decide (x ≤ y)).length ≤ (allT L).length := by
      rw [List.length_mergeSort, hP.length_eq]
      obtain ⟨es, clock, _, _, hs, hD⟩ := hkm.1
      rw [hD]
      show (List.map _ _).length ≤ _
      rw [List.length_map, length_sorted, List.length_map, Array.length_toList]
      exact hs
    have hml : (ss.mergeSort fun x y => decide (x ≤ y)).length = ss.length := List.length_mergeSort _
    obtain ⟨z, hz⟩ : ∃ z, ss.mergeSort (fun x y => decide (x ≤ y)) = z := ⟨_, rfl⟩
    rw [hz] at htab hlen hml hrow
    rw [← hml] at hrow
    obtain ⟨A', c', rfl, hs3, _, hc3⟩ := Strs.of_own hrow rfl
    obtain ⟨q, hq⟩ : ∃ m, z.length = m := ⟨_, rfl⟩
    rw [hq] at hs3 hc3 ⊢
    have HLEN := Lib.hid hlen
    clear hz hml hrow hkm hB hb3 hB2 hP hsz hq hlen
    go_wp2_with fail
    go_ret
    exact ⟨_, z, rfl, ⟨_, q, c', .inr ⟨_, rfl, Blk.new _ _ _⟩, hs3.below ((Below.refl _ _).alloc (Nat.le_refl _) _), hc3⟩, htab, HLEN.out, hB3.alloc hB3.size _, hB3.size⟩

set_option maxRecDepth 100000 in
set_option maxHeartbeats 2000000 in
theorem rcollect_calls (L : List (List Lb)) (A : Option Addr) (n c : Nat) (w : World) (hS : Sets w A n L) (hn : n ≤ 1048576) (hall : (allT L).length ≤ 1048576) :
    Calls Try.prog 22 #[.slice A n c] w (ROfOut w (allT L)) := by
  obtain ⟨i0, hi0, hz0, hz1, hz2⟩ := info_parts info_string
  have hL := hS.len
  have HL := Lib.hid hL
  clear hL
  go_enter Try.func22, Try.ntmps22
  go_upto_block 0 with fail
  go_cut [3] (fun s3 wz => ∃ v3 : Value, v3 = s3 ∧ wz.ownsRow w.heap.size 9 1 v3 (allT L).length ((allT L).map txtV) ∧ Below w.heap.size w wz)
  case first =>
    go_wp2_with fail
    go_loopg [3, 4] n (fun g s3 s4 wr => ∃ (i : Nat) (v3 : Value), v3 = s3 ∧ i + g = n ∧ s4 = .int .i64 (i : Int) ∧ wr.ownsRow w.heap.size 9 1 v3 (allT (L.take i)).length ((allT (L.take i)).map txtV) ∧ Below w.heap.size w wr)
    case atStart => exact ⟨0, _, rfl, by omega, rfl, World.ownsRow_nil _ _ _ _, Below.refl _ _⟩
    case round =>
      obtain ⟨i, v3, rfl, hig, rfl, hown, hB⟩ := hrel
      have HIG := Lib.hid hig
      clear hig
      by_cases hi : i < n
      · have el : decide ((i : Int) < (n : Int)) = true := by simp; omega
        have el' : decide (i < n) = true := by simp; omega
        have hiL : i < L.length := by have := HL.out; omega
        obtain ⟨b, off, C, m, d, rfl, hbl, hcell, hE, hmd⟩ := hS.at_ hi
        have htk := allT_take hiL
        obtain ⟨l, hl⟩ : ∃ l, L[i]! = l := ⟨_, rfl⟩
        rw [hl] at hE htk
        have hll := hE.len
        have hsum : (allT (L.take i)).length + 2 * m ≤ 1048576 := by
          have h1 := allT_take_len (L := L) (i + 1)
          rw [htk, List.length_append, texts_len, hll] at h1
          omega
        obtain ⟨T, hT⟩ : ∃ T, allT (L.take i) = T := ⟨_, rfl⟩
        rw [hT] at hown htk hsum
        have HTK := Lib.hid htk
        have HLL := Lib.hid hll
        clear htk hl hll hT hiL
        obtain ⟨wo, rfl⟩ : ∃ x, x = wr := ⟨_, rfl⟩
        go_upto_block 1 with fail
        go_cut [3] (fun s3 wz => ∃ v5 : Value, v5 = s3 ∧ wz.ownsRow w.heap.size 9 1 v5 (T ++ texts l).length ((T ++ texts l).map txtV) ∧ Below w.heap.size w wz)
        case first =>
          go_wp2_with fail
          go_loopg [3, 5] m (fun g s3 s5 wz => ∃ (k : Nat) (v5 : Value), v5 = s3 ∧ k + g = m ∧ s5 = .int .i64 (k : Int) ∧ wz.ownsRow w.heap.size 9 1 v5 (T ++ texts (l.take k)).length ((T ++ texts (l.take k)).map txtV) ∧ Below w.heap.size w wz)
          case atStart => exact ⟨0, _, rfl, by omega, rfl, by simpa [texts] using hown, hB⟩
          case round =>
            obtain ⟨k, v5, rfl, hkg, rfl, hown, hB⟩ := hrel
            have HKG := Lib.hid hkg
            clear hkg
            have hcr := (hB.cell (p := ⟨b, off + i, none⟩) hbl).trans hcell
            by_cases hk : k < m
            · have ek : decide ((k : Int) < (m : Int)) = true := by simp; omega
              have ek' : decide (k < m) = true := by simp; omega
              have hkl : k < l.length := by have := HLL.out; omega
              obtain ⟨bb, oo, rfl, _, _⟩ := hE.2 (by omega)
              obtain ⟨hbl2, c0, c1⟩ := lab_at hE (by omega) hB k hkl
              have htk := texts_take hkl
              obtain ⟨x, hx⟩ : ∃ x, l[k]! = x := ⟨_, rfl⟩
              rw [hx] at c0 c1 htk
              obtain ⟨N, hN⟩ : ∃ N : ByteArray, (⟨x.n.toArray⟩ : ByteArray) = N := ⟨_, rfl⟩
              obtain ⟨V, hV⟩ : ∃ N : ByteArray, (⟨x.v.toArray⟩ : ByteArray) = N := ⟨_, rfl⟩
              rw [hN] at c0
              rw [hV] at c1
              have hUl : (T ++ texts (l.take k)).length + 2 ≤ 1048576 := by
                rw [List.length_append, texts_len, List.length_take]
                omega
              obtain ⟨U, hU⟩ : ∃ U, T ++ texts (l.take k) = U := ⟨_, rfl⟩
              have hnext : T ++ texts (l.take (k + 1)) = U ++ [x.n] ++ [x.v] := by rw [htk, ← hU]; simp
              rw [hU] at hown hUl
              obtain ⟨u, hu⟩ : ∃ u, U.length = u := ⟨_, rfl⟩
              rw [hu] at hown hUl
              have HU := Lib.hid hu
              have HX := Lib.hid hx
              have HNEXT := Lib.hid hnext
              have HN := Lib.hid hN
              have HV := Lib.hid hV
              clear hx hN hV hU hnext htk hu
              have hbs := hB.size
              go_wp2_with (at_builtin; refine wpList_append_own_at _ rfl _ _ 22 rfl w.heap.size 9 i0 (.string ⟨#[]⟩) 1 16 Try.underlying22 hi0 hz0 hz1 hz2 rfl (by decide) _ _ _ rfl (hown.alloc _) ⟨wr.heap.size, 0, none⟩ 1 1 [.string N] rfl rfl ?p1 ?p2 ?p3 ?p4 ?p5 ?_)
              case p1 => exact news_of_blk (l := [.string N]) (Blk.new wr _ _)
              case p2 => intro u hu; rw [List.mem_singleton.1 hu]; rfl
              case p3 => unfold maxLen; omega
              case p4 => omega
              case p5 => simp; omega
              intro v' w9 hown' hgrow _ _
              have hB9 : Below w.heap.size w w9 := own_below hB hB.size hown hgrow
              have hcr9 := (hB9.cell (p := ⟨b, off + i, none⟩) hbl).trans hcell
              obtain ⟨_, _, c1'⟩ := lab_at hE (by omega) hB9 k hkl
              rw [HX.out, HV.out] at c1'
              have hown9 : w9.ownsRow w.heap.size 9 1 v' (u + 1) ((U ++ [x.n]).map txtV) := by
                have e1 : (U ++ [x.n]).map txtV = U.map txtV ++ [.string N] := by rw [List.map_append]; simp [txtV, HN.out]
                rw [e1]
                exact hown'
              have hbs9 := hB9.size
              clear hown' hgrow hcr c0 c1 hown
              go_wp2_with (at_builtin; refine wpList_append_own_at _ rfl _ _ 22 rfl w.heap.size 9 i0 (.string ⟨#[]⟩) 1 16 Try.underlying22 hi0 hz0 hz1 hz2 rfl (by decide) _ _ _ rfl (hown9.alloc _) ⟨w9.heap.size, 0, none⟩ 1 1 [.string V] rfl rfl ?q1 ?q2 ?q3 ?q4 ?q5 ?_)
              case q1 => exact news_of_blk (l := [.string V]) (Blk.new w9 _ _)
              case q2 => intro u hu; rw [List.mem_singleton.1 hu]; rfl
              case q3 => unfold maxLen; omega
              case q4 => omega
              case q5 => simp; omega
              intro v'' w8 hown'' hgrow _ _
              have hB8 : Below w.heap.size w w8 := own_below hB9 hB9.size hown9 hgrow
              have hown8 : w8.ownsRow w.heap.size 9 1 v'' (T ++ texts (l.take (k + 1))).length ((T ++ texts (l.take (k + 1))).map txtV) := by
                have e1 : (U ++ [x.n] ++ [x.v]).map txtV = (U ++ [x.n]).map txtV ++ [.string V] := by rw [List.map_append]; simp [txtV, HV.out]
                rw [HNEXT.out, e1, List.length_append, List.length_append, HU.out]
                simpa using hown''
              clear hown'' hgrow hcr9 c1' hown9
              go_wp2_with fail
              go_roundg (gk - 1)
              case measure => have := HKG.out; omega
              case rel => exact ⟨k + 1, _, rfl, by have := HKG.out; omega, by go_num, hown8, hB8⟩
            · have ek : decide ((k : Int) < (m : Int)) = false := by simp; omega
              have ek' : decide (k < m) = false := by simp; omega
              have htk : l.take k = l := List.take_of_length_le (by have := HLL.out; omega)
              rw [htk] at hown
              clear htk
              go_wp2_with fail
              go_meet
              exact ⟨_, rfl, hown, hB⟩
        case rest =>
          obtain ⟨v5, rfl, hown', hB'⟩ := hcut
          obtain ⟨wx, rfl⟩ : ∃ x, x = wc := ⟨_, rfl⟩
          go_wp2_with fail
          go_roundg (gk - 1)
          case measure => have := HIG.out; omega
          case rel => exact ⟨i + 1, _, rfl, by have := HIG.out; omega, by go_num, by rw [HTK.out]; exact hown', hB'⟩
      · have el : decide ((i : Int) < (n : Int)) = false := by simp; omega
        have el' : decide (i < n) = false := by simp; omega
        have htk : L.take i = L := List.take_of_length_le (by have := HL.out; omega)
        rw [htk] at hown
        clear htk
        go_wp2_with fail
        go_meet
        exact ⟨_, rfl, hown, hB⟩
  case rest =>
    obtain ⟨v3, rfl, hown, hB⟩ := hcut
    obtain ⟨w1, rfl⟩ : ∃ x, x = wc := ⟨_, rfl⟩
    obtain ⟨A', c', rfl, hs, _, hc⟩ := Strs.of_own hown rfl
    obtain ⟨q, hq⟩ : ∃ m, (allT L).length = m := ⟨_, rfl⟩
    rw [hq] at hs hc hall ⊢
    clear hown hq
    go_wp2_with fail
    refine (rof_calls q (allT L) A' c' w1 hs hc (by omega)).mono ?_
    rintro e w2 ⟨A2, c2, t, rfl, hs2, ht, htl, hc2, hb2⟩
    have hB2 := then_ hB hb2
    obtain ⟨q2, hq2⟩ : ∃ m, t.length = m := ⟨_, rfl⟩
    have HQ2 := Lib.hid hq2
    rw [hq2] at hs2 hc2 htl ⊢
    clear hq2
    go_wp2_with fail
    go_ret
    exact ⟨A2, c2, t, by rw [HQ2.out]; rfl, by rw [HQ2.out]; exact hs2, ht, by rw [HQ2.out]; exact htl, by rw [HQ2.out]; exact hc2, hB2⟩
end Go.Proofs.Ytpmahljbkgielaa
