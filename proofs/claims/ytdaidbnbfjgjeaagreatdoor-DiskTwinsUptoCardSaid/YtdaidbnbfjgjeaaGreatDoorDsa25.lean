/- Merged: RdkWalksO. -/
import Derived.Test.YtdaidbnbfjgjeaaGreatDoorDsa24
import Derived.Test.YtdaidbnbfjgjeaaGreatDoorDsa20
set_option linter.unusedVariables false
set_option linter.unusedSimpArgs false
/-! ## RdkWalksO -/
/- The walks of layer 3 (disk), the document's: Restart. -/
namespace Go.Proofs.YtdaidbnbfjgjeaaGreatDoor
open Go.RowKit Go.Shelf Go.Maps Go.Sort
attribute [local go_sem ↓] Go.wp_at_zero Go.wp_at_succ
attribute [local go_sem] Later.cell Later.frozen

theorem encS_parts (s : St) : ∃ (K AT : Int) (S1 S2 : ByteArray), encS s = [.int .i64 K, .string S1, .string S2, .int .i64 AT] := by
  cases s with
  | mkdir a => exact ⟨1, 0, ⟨a.toArray⟩, ⟨#[]⟩, rfl⟩
  | create a i => exact ⟨2, i, ⟨a.toArray⟩, ⟨#[]⟩, rfl⟩
  | rename a b => exact ⟨3, 0, ⟨a.toArray⟩, ⟨b.toArray⟩, rfl⟩
  | remove a => exact ⟨4, 0, ⟨a.toArray⟩, ⟨#[]⟩, rfl⟩
theorem encS_len (s : St) : (encS s).length = 4 := by cases s <;> rfl
theorem encS_at : ∀ {l : List St} {i : Nat} {s : St} (j : Nat), l[i]? = some s → j < 4 → (l.flatMap encS)[i * 4 + j]? = (encS s)[j]?
  | [], _, _, _, h, _ => by simp at h
  | f :: m, 0, e, k, h, hk => by
    simp at h
    subst h
    rw [List.flatMap_cons, Nat.zero_mul, Nat.zero_add, List.getElem?_append_left (by rw [encS_len]; exact hk)]
  | f :: m, j + 1, e, k, h, hk => by
    rw [List.flatMap_cons, List.getElem?_append_right (by rw [encS_len]; omega)]
    rw [show (j + 1) * 4 + k - (encS f).length = j * 4 + k by rw [encS_len]; omega]
    exact encS_at k (by simpa using h) hk
theorem rapply_any {n : Nat} {l : List Th} (s : St) (K AT : Int) (S1 S2 : ByteArray) (henc : encS s = [.int .i64 K, .string S1, .string S2, .int .i64 AT]) (hok : StOk n l s) (hw : TW n l) (X : Option Addr) (m c : Nat) (w : World) (h : Ths w X m l) (hm : m ≤ 1073741824) :
    Calls Tryz.prog 67 #[.slice X m c, .agg #[.int .i64 K, .string S1, .string S2, .int .i64 AT]] w (ApplyOut w (applyS l s)) := by
  have hpz : ∀ x ∈ l, x.path.length ≤ 1073741824 := fun x hx => paths_short hw x.path (List.mem_map.2 ⟨x, hx, rfl⟩)
  cases s with
  | mkdir a =>
    simp only [encS, List.cons.injEq, Value.int.injEq, true_and, and_true] at henc
    obtain ⟨rfl, h1, h2, rfl⟩ := henc
    obtain rfl : S1 = ⟨a.toArray⟩ := by unfold txtV at h1; injection h1 with h1; exact h1.symm
    obtain rfl : S2 = ⟨#[]⟩ := by injection h2 with h2; exact h2.symm
    have := rapply_mkdir (c := c) h ⟨a.toArray⟩ (by have := nameB_len hok.1; rw [tosize]; omega) hm hpz
    rw [tobytes] at this
    exact this
  | create a i =>
    simp only [encS, List.cons.injEq, Value.int.injEq, true_and, and_true] at henc
    obtain ⟨rfl, h1, h2, rfl⟩ := henc
    obtain rfl : S1 = ⟨a.toArray⟩ := by unfold txtV at h1; injection h1 with h1; exact h1.symm
    obtain rfl : S2 = ⟨#[]⟩ := by injection h2 with h2; exact h2.symm
    have := rapply_create (c := c) h ⟨a.toArray⟩ i (by have := pathB_len hok.1; rw [tosize]; omega) hm hpz
    rw [tobytes] at this
    exact this
  | rename a b =>
    simp only [encS, List.cons.injEq, Value.int.injEq, true_and, and_true] at henc
    obtain ⟨rfl, h1, h2, rfl⟩ := henc
    obtain rfl : S1 = ⟨a.toArray⟩ := by unfold txtV at h1; injection h1 with h1; exact h1.symm
    obtain rfl : S2 = ⟨b.toArray⟩ := by unfold txtV at h2; injection h2 with h2; exact h2.symm
    have := rapply_rename (c := c) h ⟨a.toArray⟩ ⟨b.toArray⟩ (by have := pathB_len hok.1; rw [tosize]; omega) (by have := pathB_len hok.2.1; rw [tosize]; omega) hm hpz
    rw [tobytes, tobytes] at this
    exact this
  | remove a =>
    simp only [encS, List.cons.injEq, Value.int.injEq, true_and, and_true] at henc
    obtain ⟨rfl, h1, h2, rfl⟩ := henc
    obtain rfl : S1 = ⟨a.toArray⟩ := by unfold txtV at h1; injection h1 with h1; exact h1.symm
    obtain rfl : S2 = ⟨#[]⟩ := by injection h2 with h2; exact h2.symm
    have := rapply_remove (c := c) h ⟨a.toArray⟩ (by have := pathB_len hok.1; rw [tosize]; omega) hm hpz
    rw [tobytes] at this
    exact this
/-- The entries of the first i things' files. -/
def filesTo (l : List Th) (i : Nat) : List En := sortE (((l.take i).filter fun x => !x.dir).map fun x => ⟨x.path, false, x.at_⟩)
theorem filesTo_all {l : List Th} {i : Nat} (h : l.length ≤ i) : filesTo l i = sortedF l := by unfold filesTo; rw [List.take_of_length_le h]; rfl
theorem filesTo_succ {l : List Th} {i : Nat} (hi : i < l.length) : filesTo l (i + 1) = if l[i]!.dir then filesTo l i else insE ⟨l[i]!.path, false, l[i]!.at_⟩ (filesTo l i) := by
  unfold filesTo
  rw [List.take_succ_eq_append_getElem hi, List.filter_append, List.map_append, getElem!_pos l i hi]
  cases hd : l[i].dir with
  | true => simp [hd]
  | false =>
    simp only [List.filter_cons, hd, List.filter_nil]
    unfold sortE
    rw [List.foldl_append]
    rfl
theorem filesTo_len (l : List Th) (i : Nat) : (filesTo l i).length ≤ i := by
  unfold filesTo
  rw [(sortE_perm _).length_eq, List.length_map]
  refine Nat.le_trans (List.length_filter_le _ _) ?_
  rw [List.length_take]
  omega
def Ints (w : World) (A : Option Addr) (n : Nat) (l : List Int) : Prop := Elems w w.heap.size 1 I1 A n l
theorem Ints.at_ {w : World} {A : Option Addr} {n : Nat} {l : List Int} (h : Ints w A n l) {i : Nat} (hi : i < n) : ∃ b off, A = some ⟨b, off, none⟩ ∧ b < w.heap.size ∧ w.cell? ⟨b, off + i, none⟩ = some (.int .i64 l[i]!) := by
  obtain ⟨b, off, e, hb, hc⟩ := h.2 (by omega)
  have hl : i < l.length := by have : l.length = n := Elems.len h; omega
  have hx := hc i l[i]! (by rw [getElem!_pos l i hl, List.getElem?_eq_getElem hl])
  exact ⟨b, off, e, hb, by simpa using hx 0 _ rfl⟩
def wishAt (data : List Int) (i : Nat) : Int := if data = [] then 0 else data[i % data.length]?.getD 0
def RRestOut (B0 : Nat) (R : Nat → Nat) (A : RAdr) (d' : Ds) (w : World) (e : Ending) (w' : World) : Prop :=
  ∃ R' A', e = .returned (.tuple #[]) ∧ RD B0 w' R' A' d' ∧ Own R R' w w' ∧ A'.q = A.q
section
variable {B0 M : Nat} {R : Nat → Nat} {A : RAdr} {d : Ds}
theorem RD.step_at {w : World} (h : RD B0 w R A d) {i : Nat} {s : St} (hi : d.steps[i]? = some s) : ∃ g c, A.gv = .slice (some ⟨g, 0, none⟩) d.steps.length c ∧ R g = 3 ∧ g < w.heap.size ∧ d.steps.length ≤ c ∧ ∀ j, j < 4 → w.cell? ⟨g, i * 4 + j, none⟩ = (encS s)[j]? := by
  have hil := (List.getElem?_eq_some_iff.1 hi).1
  rcases h.steps.1.2 with ⟨_, h0⟩ | ⟨g, c, cur, hgv, _, _, hnc, _⟩
  · omega
  · have hown := h.steps.1
    rw [hgv] at hown
    refine ⟨g, c, hgv, h.steps.2 g (by rw [hgv]; rfl), (World.ownsRow.lt h.steps.1 g (by rw [hgv]; rfl)).2, hnc, fun j hj => ?_⟩
    rw [World.ownsRow.cellAt hown _ (by omega)]
    exact encS_at j hi hj
theorem keepF_plain (f : By) (wish : Int) (z : Bool) : keepF f wish z = ⟨(keepF f wish z).now, (keepF f wish z).now, []⟩ := rfl
theorem ThsM.below {w w' : World} {v : Value} {l : List Th} (h : ThsM w R v l) (hb : Below w.heap.size w w') : ThsM w' R v l :=
  h.same fun g hg _ => ⟨hb.block g (World.ownsRow.lt h.1 g hg).2, rfl⟩
theorem ThsM.file {w : World} {v : Value} {l : List Th} (h : ThsM w R v l) {g j : Nat} (hg : R g = 4) (u : Value) : ThsM (w.setCell ⟨g, j, none⟩ u) R v l :=
  h.same fun k _ hk => ⟨Below.heap_setCell _ _ _ k (fun e => by have e' : k = g := e; rw [e'] at hk; omega), rfl⟩
set_option maxRecDepth 100000 in
set_option maxHeartbeats 8000000 in
theorem rrestart_calls (nst : Int) (Ad : Option Addr) (nd cd : Nat) (data : List Int) (zeros : Bool) (w : World) (h : RD B0 w R A d) (hw : WF M d) (hM : M ≤ 536870912) (hB : B0 ≤ w.heap.size) (hn1 : -9223372036854775808 ≤ nst) (hn2 : nst ≤ 9223372036854775807)
    (hdat : Ints w Ad nd data) (hdr : ∀ a, Ad = some a → 0 < nd → R a.block = 0) (hdb : ∀ x ∈ data, -9223372036854775808 ≤ x ∧ x ≤ 9223372036854775807) (hnd : nd ≤ 140737488355328) :
    Calls Tryz.prog 23 #[.pointer (some ⟨A.q, 0, none⟩), .int .i64 nst, .slice Ad nd cd, .bool zeros] w (RRestOut B0 R A (restartD d nst data zeros) w) := by
  obtain ⟨X0, c0, hsv, hX0, hc0⟩ := ThsM.out h.safe
  obtain ⟨q, hq⟩ : ∃ q, A.q = q := ⟨_, rfl⟩
  have HQ := Lib.hid hq
  obtain ⟨n0, hn0⟩ : ∃ n, d.safe.length = n := ⟨_, rfl⟩
  obtain ⟨ns, hns⟩ : ∃ n, d.steps.length = n := ⟨_, rfl⟩
  have hnsM : ns ≤ 536870912 := by have := hw.names; omega
  have k1 : w.cell? ⟨q, 1, none⟩ = some (.slice X0 n0 c0) := by rw [← hq, ← hn0, ← hsv]; exact Blk.cell h.blk 1
  obtain ⟨X2, c2, hgv⟩ : ∃ X2 c2, A.gv = .slice X2 ns c2 := by
    have := h.steps.1
    rw [hns] at this
    rcases this.2 with ⟨h1, h0⟩ | ⟨g, cap, cur, h1, _⟩
    · exact ⟨none, 0, by rw [h0]; exact h1⟩
    · exact ⟨_, cap, h1⟩
  have k2 : w.cell? ⟨q, 2, none⟩ = some (.slice X2 ns c2) := by rw [← hq, ← hgv]; exact Blk.cell h.blk 2
  have HSH := Lib.hid (rshare_calls nst ns · hn1 hn2 (by omega))
  have hle := shareN_le nst ns
  obtain ⟨m, hm⟩ : ∃ m, shareN nst ns = m := ⟨_, rfl⟩
  rw [hm] at HSH hle
  have hE : restartD d nst data zeros = { d with things := (d.steps.take m).foldl applyS d.safe, safe := (d.steps.take m).foldl applyS d.safe, steps := [], files := keepAll data zeros (sortedF ((d.steps.take m).foldl applyS d.safe)) 0 d.files, off := false, await := 0 } := by
    unfold restartD
    rw [hns, hm]
  have HE := Lib.hid hE
  have HNS := Lib.hid hns
  have HN0 := Lib.hid hn0
  have HSV := Lib.hid hsv
  have HGV := Lib.hid hgv
  have HDAT := Lib.hid hdat
  have HDR := Lib.hid hdr
  have HDB := Lib.hid hdb
  have hql : q < w.heap.size := lt_of_cell k1
  rw [hq]
  clear hE hns hn0 hsv hgv hm hq hX0 hc0 hdat hdr hdb
  go_enter Tryz.func23, Tryz.ntmps23
  go_wp2_with fail
  refine (HSH.out _).mono ?_
  rintro _ w1 ⟨rfl, rfl⟩
  go_upto_block 0 with fail
  go_cut [8] (fun s8 wz => ∃ v8 R', v8 = s8 ∧ RD B0 wz R' A d ∧ Own R R' w wz ∧ ThsM wz R' v8 ((d.steps.take m).foldl applyS d.safe))
  case first =>
    go_wp2_with fail
    go_loopg [8, 10] m (fun g s8 s10 wr => ∃ (i : Nat) (v8 : Value) (R' : Nat → Nat), v8 = s8 ∧ i + g = m ∧ s10 = .int .i64 (i : Int) ∧ RD B0 wr R' A d ∧ Own R R' w wr ∧ ThsM wr R' v8 ((d.steps.take i).foldl applyS d.safe))
    case atStart => exact ⟨0, _, R, rfl, by omega, rfl, h, Own.refl _ _, by rw [← HN0.out, ← HSV.out]; exact h.safe⟩
    case round =>
      obtain ⟨i, v8, R', rfl, hig, rfl, hRD, hO, hT⟩ := hrel
      have HIG := Lib.hid hig
      have HRD := Lib.hid hRD
      have HO := Lib.hid hO
      have HT := Lib.hid hT
      clear hig
      by_cases hi : i < m
      · have el : decide ((i : Int) < (m : Int)) = true := by simp; omega
        have el' : decide (i < m) = true := by simp; omega
        have hil : i < d.steps.length := by rw [HNS.out]; omega
        obtain ⟨s, hs⟩ : ∃ s, d.steps[i]? = some s := ⟨_, List.getElem?_eq_getElem hil⟩
        have hok := hw.chain.at_ hs
        have htw := (hw.chain.take i).tw hw.safe
        have hft := foldS_take (l := d.safe) hs
        have hfl := foldS_len (d.steps.take i) d.safe
        have hnm := hw.names
        rw [List.length_take] at hfl
        obtain ⟨L, hL⟩ : ∃ L, (d.steps.take i).foldl applyS d.safe = L := ⟨_, rfl⟩
        rw [hL] at hok htw hft hfl hT HT
        obtain ⟨X, c, hv8, hX, hc⟩ := ThsM.out hT
        subst hv8
        obtain ⟨K, AT, S1, S2, henc⟩ := encS_parts s
        obtain ⟨g, c', hgv, hRg, hgl, hnc, hcell⟩ := hRD.step_at hs
        rw [HGV.out] at hgv
        obtain ⟨rfl, h9, rfl⟩ : X2 = some ⟨g, 0, none⟩ ∧ ns = d.steps.length ∧ c2 = c' := by simpa using hgv
        have e0 : wr.cell? ⟨g, i * 4, none⟩ = some (.int .i64 K) := by have := hcell 0 (by omega); rw [henc] at this; exact this
        have e1 : wr.cell? ⟨g, i * 4 + 1, none⟩ = some (.string S1) := by have := hcell 1 (by omega); rw [henc] at this; exact this
        have e2 : wr.cell? ⟨g, i * 4 + 2, none⟩ = some (.string S2) := by have := hcell 2 (by omega); rw [henc] at this; exact this
        have e3 : wr.cell? ⟨g, i * 4 + 3, none⟩ = some (.int .i64 AT) := by have := hcell 3 (by omega); rw [henc] at this; exact this
        have j2 : wr.cell? ⟨q, 2, none⟩ = some (.slice (some ⟨g, 0, none⟩) ns c2) := by rw [← HQ.out, ← HGV.out]; exact Blk.cell hRD.blk 2
        have hins : (i : Int) < (ns : Int) := by omega
        have HAP := Lib.hid (rapply_any s K AT S1 S2 henc hok htw X L.length c wr hX (by omega))
        have HFT := Lib.hid hft
        have hBr : B0 ≤ wr.heap.size := by have := hO.size; omega
        obtain ⟨LN, hLN⟩ : ∃ n, L.length = n := ⟨_, rfl⟩
        rw [hLN] at HAP HT ⊢
        clear hs hok htw hft hfl hT hL henc hRg hcell hRD hO hX hc h9 hgv hgl hLN
        go_wp2_with fail
        refine HAP.out.mono ?_
        rintro _ w2 ⟨v9, rfl, hv9, hb9⟩
        obtain ⟨hR3, hO3, hT3⟩ := HRD.out.give_row hb9 hv9 hBr 2
        have hT4 : ThsM w2 (rowR R' v9 2) v9 ((d.steps.take (i + 1)).foldl applyS d.safe) := by rw [HFT.out]; exact hT3
        have hO4 := HO.out.trans hO3
        clear hT3 hO3 hv9 hb9 e0 e1 e2 e3
        go_wp2_with fail
        go_roundg (gk - 1)
        case measure => have := HIG.out; omega
        case rel => exact ⟨i + 1, v9, _, rfl, by have := HIG.out; omega, by go_num, hR3, hO4, hT4⟩
      · have el : decide ((i : Int) < (m : Int)) = false := by simp; omega
        have el' : decide (i < m) = false := by simp; omega
        have hig := HIG.out
        obtain rfl : i = m := by omega
        clear hRD hO hT hig
        go_wp2_with fail
        go_meet
        exact ⟨v8, R', rfl, HRD.out, HO.out, HT.out⟩
  case rest =>
    obtain ⟨v8, R', rfl, hRD, hO, hT⟩ := hcut
    obtain ⟨w5, rfl⟩ : ∃ x, x = wc := ⟨_, rfl⟩
    have htw := (hw.chain.take m).tw hw.safe
    have hfl := foldS_len (d.steps.take m) d.safe
    have hnm := hw.names
    rw [List.length_take] at hfl
    obtain ⟨L, hL⟩ : ∃ L, (d.steps.take m).foldl applyS d.safe = L := ⟨_, rfl⟩
    rw [hL] at htw hfl hT HE
    obtain ⟨X, c, hv8, hX, hc⟩ := ThsM.out hT
    subst hv8
    obtain ⟨LN, hLN⟩ : ∃ n, L.length = n := ⟨_, rfl⟩
    rw [hLN] at hX hT hc hfl ⊢
    have HX := Lib.hid hX
    have HT := Lib.hid hT
    have HLN := Lib.hid hLN
    have HRD := Lib.hid hRD
    have HO := Lib.hid hO
    have HTW := Lib.hid htw
    have hLNz : LN ≤ 1073741824 := by omega
    have hpz : ∀ x ∈ L, x.path.length ≤ 1073741824 := fun x hx => paths_short htw x.path (List.mem_map.2 ⟨x, hx, rfl⟩)
    have HPZ := Lib.hid hpz
    clear hX hT hLN hRD hO hL htw hpz
    go_upto_block 2 with fail
    go_cut [11] (fun s11 wz => ∃ v11, v11 = s11 ∧ EnRow wz w5.heap.size v11 (sortedF L) ∧ Below w5.heap.size w5 wz)
    case first =>
      go_wp2_with fail
      go_loopg [11, 12] LN (fun g s11 s12 wr => ∃ (i : Nat) (v11 : Value), v11 = s11 ∧ i + g = LN ∧ s12 = .int .i64 (i : Int) ∧ EnRow wr w5.heap.size v11 (filesTo L i) ∧ Below w5.heap.size w5 wr)
      case atStart => exact ⟨0, _, rfl, by omega, rfl, World.ownsRow_nil _ _ _ _, Below.refl _ _⟩
      case round =>
        obtain ⟨i, v11, rfl, hig, rfl, hown, hB⟩ := hrel
        have HIG := Lib.hid hig
        have HOWN := Lib.hid hown
        have HB := Lib.hid hB
        clear hig hown
        by_cases hi : i < LN
        · have el : decide ((i : Int) < (LN : Int)) = true := by simp; omega
          have el' : decide (i < LN) = true := by simp; omega
          have hil : i < L.length := by rw [HLN.out]; exact hi
          obtain ⟨b, off, rfl, hbl, l0, l1, l2⟩ := HX.out.at_ hi
          have m0 := (hB.cell (p := ⟨b, off + i * 3, none⟩) hbl).trans l0
          have m1 := (hB.cell (p := ⟨b, off + i * 3 + 1, none⟩) hbl).trans l1
          have m2 := (hB.cell (p := ⟨b, off + i * 3 + 2, none⟩) hbl).trans l2
          have hsucc := filesTo_succ hil
          have hlen := filesTo_len L i
          have hxz := HPZ.out L[i]! (by rw [getElem!_pos L i hil]; exact List.getElem_mem hil)
          have hbr : b < wr.heap.size := by have := hB.size; omega
          have hiLN : (i : Int) < (LN : Int) := by omega
          obtain ⟨x, hx⟩ : ∃ x, L[i]! = x := ⟨_, rfl⟩
          rw [hx] at m0 m1 m2 hsucc hxz
          have HSU := Lib.hid hsucc
          obtain ⟨T, hT⟩ : ∃ T : ByteArray, (⟨x.path.toArray⟩ : ByteArray) = T := ⟨_, rfl⟩
          have hT2 : x.path = T.data.toList := by rw [← hT]
          have HT2 := Lib.hid hT2
          unfold txtV at m0
          rw [hT] at m0
          have hsrt : (filesTo L i).Pairwise LeE := sortE_sorted _
          have HSRT := Lib.hid hsrt
          clear l0 l1 l2 hx hsucc hB hT hT2 hsrt
          cases hd : x.dir with
          | true =>
            rw [hd] at m1
            have hown2 : EnRow wr w5.heap.size v11 (filesTo L (i + 1)) := by rw [HSU.out, hd, if_pos rfl]; exact HOWN.out
            clear hd
            go_wp2_with fail
            go_roundg (gk - 1)
            case measure => have := HIG.out; omega
            case rel => exact ⟨i + 1, v11, rfl, by have := HIG.out; omega, by go_num, hown2, HB.out⟩
          | false =>
            rw [hd] at m1
            have HD := Lib.hid hd
            clear hd
            go_upto_region 11 with fail
            refine wp_region_later_tail 12 (by kernel_rfl) (by kernel_rfl) ?_
            simp only [List.take_succ_cons, List.take_zero, List.drop_succ_cons, List.drop_zero]
            repeat (go_big_quiet_step (fail))
            refine wpQuiet_nil ?_
            rintro w6 ⟨⟨_, hb6⟩, rfl⟩
            have hB6 := HB.out.trans (hb6.mono HB.out.size)
            have hins := rinsert_calls (filesTo L i) T false x.at_ w5.heap.size v11 w6 (own_below2 HOWN.out hb6) HSRT.out (by omega) hB6.size
            have HINS := Lib.hid hins
            have HB6 := Lib.hid hB6
            have HO6 := Lib.hid (own_below2 HOWN.out hb6)
            clear hins hb6 hB6 m0 m1 m2
            go_wp2_with fail
            refine HINS.out.mono ?_
            rintro e w7 ⟨v9, rfl, hr7, hg7⟩
            have hB7 : Below w5.heap.size w5 w7 := by
              have hb1 := HB6.out
              exact hb1.trans ⟨hg7.os, hg7.tape, hg7.output, hg7.size, fun k hk => hg7.block k (by have := hb1.size; omega) (fun e => by have := (World.ownsRow.lt HO6.out k e.symm).1; omega)⟩
            have hown7 : EnRow w7 w5.heap.size v9 (filesTo L (i + 1)) := by
              rw [HSU.out, HD.out, HT2.out]
              exact hr7
            clear hg7 hr7
            go_wp2_with fail
            go_roundg (gk - 1)
            case measure => have := HIG.out; omega
            case rel => exact ⟨i + 1, v9, rfl, by have := HIG.out; omega, by go_num, hown7, hB7⟩
        · have el : decide ((i : Int) < (LN : Int)) = false := by simp; omega
          have el' : decide (i < LN) = false := by simp; omega
          have hfin : EnRow wr w5.heap.size v11 (sortedF L) := by have := HOWN.out; rwa [filesTo_all (by rw [HLN.out]; omega)] at this
          clear hB
          go_wp2_with fail
          go_meet
          exact ⟨v11, rfl, hfin, HB.out⟩
    case rest =>
      obtain ⟨v11, rfl, hown, hB6⟩ := hcut
      obtain ⟨w6, rfl⟩ : ∃ x, x = wc := ⟨_, rfl⟩
      obtain ⟨S, hS⟩ : ∃ S, sortedF L = S := ⟨_, rfl⟩
      rw [hS] at hown HE
      have hSmem : ∀ e ∈ S, e.size < d.files.length := by
        intro e he
        rw [← hS] at he
        obtain ⟨x, hx, hxd, rfl⟩ := sortedF_mem.1 he
        exact HTW.out.ats x hx hxd
      have hSlen : S.length ≤ LN := by rw [← hS, ← filesTo_all (l := L) (i := LN) (by rw [HLN.out]; exact Nat.le_refl _)]; exact filesTo_len L LN
      obtain ⟨SN, hSN⟩ : ∃ n, S.length = n := ⟨_, rfl⟩
      obtain ⟨A11, c11, rfl⟩ : ∃ A11 c11, v11 = .slice A11 SN c11 := by
        have := hown
        unfold EnRow at this
        rw [hSN] at this
        rcases this.2 with ⟨h1, h0⟩ | ⟨g, cap, cur, h1, _⟩
        · exact ⟨none, 0, by rw [h0]; exact h1⟩
        · exact ⟨_, cap, h1⟩
      have hrow : w6.ownsRow w5.heap.size 63 3 (.slice A11 SN c11) SN (S.flatMap encE) := by have := hown; unfold EnRow at this; rw [hSN] at this; exact this
      have hSz : ∀ g, (Value.slice A11 SN c11).ownBlock = some g → R' g = 0 ∧ g < w6.heap.size := fun g hg => ⟨HRD.out.inw.new (World.ownsRow.lt hrow g hg).1, (World.ownsRow.lt hrow g hg).2⟩
      have HS := Lib.hid hS
      have HSM := Lib.hid hSmem
      have HSN := Lib.hid hSN
      have HROW := Lib.hid hrow
      have HSZ := Lib.hid hSz
      have hR6 := HRD.out.below hB6
      have hT6 := HT.out.below hB6
      have hO6 := HO.out.trans (Own.of_below (R := R') hB6)
      have HR6 := Lib.hid hR6
      have HT6 := Lib.hid hT6
      have HO6 := Lib.hid hO6
      have hSNz : SN ≤ 1073741824 := by omega
      clear hown hB6 hS hSmem hSN hrow hSz hR6 hT6 hO6
      go_wp2_with fail
      go_loopg [13] SN (fun g s13 wr => ∃ (i : Nat) (A' : RAdr), i + g = SN ∧ s13 = .int .i64 (i : Int) ∧ RD B0 wr R' A' { d with files := keepAll data zeros (S.take i) 0 d.files } ∧ Own R' R' w6 wr ∧ A'.q = A.q ∧ ThsM wr R' (.slice X LN c) L)
      case atStart => exact ⟨0, A, by omega, rfl, HR6.out, Own.refl _ _, rfl, HT6.out⟩
      case round =>
        obtain ⟨i, A', hig, rfl, hRD, hOr, hqq, hTr⟩ := hrel
        have HIG := Lib.hid hig
        have HQQ := Lib.hid hqq
        have HRR := Lib.hid hRD
        have HOR := Lib.hid hOr
        have HTR := Lib.hid hTr
        clear hig hqq
        by_cases hi : i < SN
        · have el : decide ((i : Int) < (SN : Int)) = true := by simp; omega
          have el' : decide (i < SN) = true := by simp; omega
          have hil : i < S.length := by rw [HSN.out]; exact hi
          obtain ⟨g11, hA11⟩ : ∃ g, A11 = some ⟨g, 0, none⟩ := by
            rcases HROW.out.2 with ⟨h1, h0⟩ | ⟨g, cap, cur, h1, _⟩
            · omega
            · injection h1 with h1; exact ⟨g, h1⟩
          subst hA11
          obtain ⟨hz11, hl11⟩ := HSZ.out g11 rfl
          obtain ⟨q0, q1, q2⟩ := EnRow.cells HROW.out HSN.out (j := i) (e := S[i]!) (by rw [List.getElem?_eq_getElem hil, getElem!_pos S i hil])
          have m2 := cell_own hOr q2 hz11
          have hkt := keepAll_take data zeros S d.files hil
          have hidx := HSM.out S[i]! (by rw [getElem!_pos S i hil]; exact List.getElem_mem hil)
          obtain ⟨x, hx⟩ : ∃ x, S[i]!.size = x := ⟨_, rfl⟩
          rw [hx] at m2 hkt hidx
          have hlenk : (keepAll data zeros (S.take i) 0 d.files).length = d.files.length := keepAll_len _ _ _ _ _
          have hokk := keepAll_ok (M := M) data zeros (S.take i) 0 d.files hw.files
          obtain ⟨fs, hfs⟩ : ∃ fs, keepAll data zeros (S.take i) 0 d.files = fs := ⟨_, rfl⟩
          rw [hfs] at hRD hkt hlenk hokk HRR
          have hxl : x < ({ d with files := fs } : Ds).files.length := by show x < fs.length; rw [hlenk]; exact hidx
          obtain ⟨g, cf, v, hfv, hRg, hgl, hnc, hvs, k0, k1, k2, hch, hfz⟩ := hRD.file_at hxl
          have hfa : fAt ({ d with files := fs } : Ds) x = fs[x]?.getD default := rfl
          rw [hfa] at k0 k1 hch
          have hfok : FOk M (fs[x]?.getD default) := by
            rw [List.getElem?_eq_getElem (by rw [hlenk]; exact hidx)]
            exact hokk _ (List.getElem_mem _)
          obtain ⟨F, hF⟩ : ∃ F, fs[x]?.getD default = F := ⟨_, rfl⟩
          rw [hF] at k0 k1 hch hkt hfok
          obtain ⟨Xs, cs, hv, hRch, _, hcs⟩ := RChs.of_own hch.1 rfl
          subst hv
          have hfl := hw.fl
          obtain ⟨fl, hfln⟩ : ∃ n, fs.length = n := ⟨_, rfl⟩
          have hfv2 : A'.fv = .slice (some ⟨g, 0, none⟩) fl cf := by rw [← hfln]; exact hfv
          have c3 : wr.cell? ⟨q, 3, none⟩ = some (.slice (some ⟨g, 0, none⟩) fl cf) := by rw [← HQ.out, ← HQQ.out, ← hfv2]; exact Blk.cell hRD.blk 3
          have hxin : (x : Int) < (fl : Int) := by rw [← hfln, hlenk]; omega
          have hxin2 : x < fl := by omega
          have hflz : fl ≤ 536870912 := by rw [← hfln, hlenk]; omega
          have hncc : fl ≤ cf := by rw [← hfln]; exact hnc
          have hqr : q < wr.heap.size := lt_of_cell c3
          have h11r : g11 < wr.heap.size := lt_of_cell m2
          have hiin : (i : Int) < (SN : Int) := by omega
          obtain ⟨sn, hsn⟩ : ∃ n, F.steps.length = n := ⟨_, rfl⟩
          rw [hsn] at k2 hRch
          obtain ⟨Tn, hTn⟩ : ∃ T : ByteArray, (⟨F.now.toArray⟩ : ByteArray) = T := ⟨_, rfl⟩
          obtain ⟨Ts, hTs⟩ : ∃ T : ByteArray, (⟨F.safe.toArray⟩ : ByteArray) = T := ⟨_, rfl⟩
          have hTnv : txtV F.now = .string Tn := by unfold txtV; rw [hTn]
          have hTsv : txtV F.safe = .string Ts := by unfold txtV; rw [hTs]
          rw [hTnv] at k0
          rw [hTsv] at k1
          obtain ⟨wv, hwv⟩ : ∃ u, wishAt data i = u := ⟨_, rfl⟩
          have hwb : -9223372036854775808 ≤ wv ∧ wv ≤ 9223372036854775807 := by
            rw [← hwv]
            unfold wishAt
            split
            · omega
            · rename_i hne
              have hp : 0 < data.length := List.length_pos_iff.2 hne
              have hm := Nat.mod_lt i hp
              rw [List.getElem?_eq_getElem hm]
              exact HDB.out _ (List.getElem_mem hm)
          have hKC := fun (x7 : Later wr) => rkeep_calls F Xs sn cs wv zeros x7.w (show RChs x7.w Xs sn F.steps from (Elems.below hRch x7.h).more x7.h.size) hwb.1 hwb.2 M (by omega) hfok.ok (by have := hfok.sum; omega) (by have := hfok.sum; omega) (by have := hfok.sl; omega)
          obtain ⟨kt, hktx⟩ : ∃ t, (keepF F wv zeros).now = t := ⟨_, rfl⟩
          have hkp : keepF F wv zeros = ⟨kt, kt, []⟩ := by rw [← hktx]; exact keepF_plain _ _ _
          rw [hkp, hTnv, hTsv] at hKC
          have hkt2 : keepAll data zeros (S.take (i + 1)) 0 d.files = fs.set x ⟨kt, kt, []⟩ := by
            rw [hkt, ← hkp, ← hwv]
            rfl
          have HKT := Lib.hid hkt2
          have HXL := Lib.hid hxl
          have HFV := Lib.hid hfv
          have HRG := Lib.hid hRg
          obtain ⟨KT, hKT⟩ : ∃ T : ByteArray, (⟨kt.toArray⟩ : ByteArray) = T := ⟨_, rfl⟩
          have hKTv : txtV kt = .string KT := by unfold txtV; rw [hKT]
          have HKTV := Lib.hid hKTv
          have hKC2 : ∀ x7 : Later wr, Calls Tryz.prog 69 #[.agg #[.string Tn, .string Ts, .slice Xs sn cs], .int .i64 wv, .bool zeros] x7.w fun e w' => e = .returned (.agg #[.string KT, .string KT, .slice none 0 0]) ∧ Below x7.w.heap.size x7.w w' :=
            fun x7 => (hKC x7).mono fun e w' ⟨h1, h2⟩ => ⟨by rw [h1]; simp only []; rw [hKTv], h2⟩
          have HKC := Lib.hid hKC2
          clear hKC2
          have hdatE : Own R R' w wr := HO6.out.trans hOr
          have HDO := Lib.hid hdatE
          clear hRD hOr hTr hkt hlenk hokk hfv hfv2 hRg hch hRch hvs hfz hfa hfok hfln hnc hF hfs hTn hTs hTnv hTsv hkp hktx hKC hkt2 hxl hKT hKTv hdatE q0 q1 q2 hx hsn hidx hz11
          by_cases hnd0 : nd = 0
          · have g1 : decide ((0 : Int) < (nd : Int)) = false := by simp; omega
            have g2 : decide (0 < nd) = false := by simp; omega
            have hw0 : wv = 0 := by
              rw [← hwv]
              unfold wishAt
              rw [if_pos (List.eq_nil_of_length_eq_zero (by rw [Elems.len HDAT.out]; exact hnd0))]
            subst hw0
            clear hwv hnd0
            go_upto_region 18 with fail
            refine wp_region_later_tail 24 (by kernel_rfl) (by kernel_rfl) ?_
            simp only [List.take_succ_cons, List.take_zero, List.drop_succ_cons, List.drop_zero]
            repeat (go_big_quiet_step ((go_at_call 69; exact quiet_later _ (HKC.out _))))
            refine wpQuiet_nil ?_
            rintro w7 ⟨⟨_, hb7⟩, rfl⟩
            have hR7 := HRR.out.below hb7
            obtain ⟨hlr, hlo⟩ := hR7.file_plain (i := x) HXL.out HFV.out kt
            obtain ⟨g', c', v', hfv', _, hgl', _, _, y0, y1, y2, _, hfz'⟩ := hR7.file_at HXL.out
            rw [HFV.out] at hfv'
            obtain ⟨rfl, rfl⟩ : g = g' ∧ cf = c' := by simpa using hfv'
            have f0 := hfz' (x * 3)
            have f1 := hfz' (x * 3 + 1)
            have f2 := hfz' (x * 3 + 2)
            rw [HKTV.out] at hlr hlo
            have hT7 := (((HTR.out.below hb7).file (j := x * 3) HRG.out (.string KT)).file (j := x * 3 + 1) HRG.out (.string KT)).file (j := x * 3 + 2) HRG.out (.slice none 0 0)
            have HO7 := Lib.hid ((HOR.out.trans (Own.of_below hb7)).trans hlo)
            have hR8 : RD B0 (((w7.setCell ⟨g, x * 3, none⟩ (.string KT)).setCell ⟨g, x * 3 + 1, none⟩ (.string KT)).setCell ⟨g, x * 3 + 2, none⟩ (.slice none 0 0)) R' { A' with vs := A'.vs.set x (.slice none 0 0) } { d with files := keepAll data zeros (S.take (i + 1)) 0 d.files } := by
              rw [HKT.out]
              exact hlr
            have HR8 := Lib.hid hR8
            have HT7 := Lib.hid hT7
            clear hR8 hT7 hlr hlo hfv' hfz' hR7 hb7 c3 k0 k1 k2
            go_wp2_with fail
            go_roundg (gk - 1)
            case measure => have := HIG.out; omega
            case rel => exact ⟨i + 1, _, by have := HIG.out; omega, by go_num, HR8.out, HO7.out, HQQ.out, HT7.out⟩
          · have g1 : decide ((0 : Int) < (nd : Int)) = true := by simp; omega
            have g2 : decide (0 < nd) = true := by simp; omega
            have hln := Elems.len HDAT.out
            have hne : data ≠ [] := fun e => by rw [e] at hln; exact hnd0 (by simpa using hln.symm)
            have hmod := Nat.mod_lt i (show 0 < nd by omega)
            obtain ⟨bd, od, hAd, hbd, kd⟩ := HDAT.out.at_ hmod
            have hRbd := HDR.out _ hAd (by omega)
            have md := cell_own HDO.out kd hRbd
            subst hAd
            obtain ⟨r, hr⟩ : ∃ r, i % nd = r := ⟨_, rfl⟩
            have hrr : (i : Int) % (nd : Int) = (r : Int) := by omega
            have hval : data[i % nd]! = wv := by
              rw [← hwv]
              unfold wishAt
              rw [if_neg hne, hln, getElem!_pos data (i % nd) (by rw [hln]; exact hmod), List.getElem?_eq_getElem (by rw [hln]; exact hmod)]
              rfl
            rw [hval, hr] at md
            rw [hr] at hmod
            have hrn : (r : Int) < (nd : Int) := by omega
            have hmin : (i : Int).tmod (nd : Int) = (r : Int) := by rw [Int.tmod_eq_emod_of_nonneg (by omega)]; exact hrr
            clear hwv hnd0 hln hne hr hval kd hRbd
            go_upto_region 18 with fail
            clear md hrr hmin
            go_upto_region 18 with fail
            refine wp_region_later_tail 24 (by kernel_rfl) (by kernel_rfl) ?_
            simp only [List.take_succ_cons, List.take_zero, List.drop_succ_cons, List.drop_zero]
            repeat (go_big_quiet_step ((go_at_call 69; exact quiet_later _ (HKC.out _))))
            refine wpQuiet_nil ?_
            rintro w7 ⟨⟨_, hb7⟩, rfl⟩
            have hR7 := HRR.out.below hb7
            obtain ⟨hlr, hlo⟩ := hR7.file_plain (i := x) HXL.out HFV.out kt
            obtain ⟨g', c', v', hfv', _, hgl', _, _, y0, y1, y2, _, hfz'⟩ := hR7.file_at HXL.out
            rw [HFV.out] at hfv'
            obtain ⟨rfl, rfl⟩ : g = g' ∧ cf = c' := by simpa using hfv'
            have f0 := hfz' (x * 3)
            have f1 := hfz' (x * 3 + 1)
            have f2 := hfz' (x * 3 + 2)
            rw [HKTV.out] at hlr hlo
            have hT7 := (((HTR.out.below hb7).file (j := x * 3) HRG.out (.string KT)).file (j := x * 3 + 1) HRG.out (.string KT)).file (j := x * 3 + 2) HRG.out (.slice none 0 0)
            have HO7 := Lib.hid ((HOR.out.trans (Own.of_below hb7)).trans hlo)
            have hR8 : RD B0 (((w7.setCell ⟨g, x * 3, none⟩ (.string KT)).setCell ⟨g, x * 3 + 1, none⟩ (.string KT)).setCell ⟨g, x * 3 + 2, none⟩ (.slice none 0 0)) R' { A' with vs := A'.vs.set x (.slice none 0 0) } { d with files := keepAll data zeros (S.take (i + 1)) 0 d.files } := by
              rw [HKT.out]
              exact hlr
            have HR8 := Lib.hid hR8
            have HT7 := Lib.hid hT7
            clear hR8 hT7 hlr hlo hfv' hfz' hR7 hb7 c3 k0 k1 k2
            go_wp2_with fail
            go_roundg (gk - 1)
            case measure => have := HIG.out; omega
            case rel => exact ⟨i + 1, _, by have := HIG.out; omega, by go_num, HR8.out, HO7.out, HQQ.out, HT7.out⟩
        · have el : decide ((i : Int) < (SN : Int)) = false := by simp; omega
          have el' : decide (i < SN) = false := by simp; omega
          have htk : S.take i = S := List.take_of_length_le (by rw [HSN.out]; omega)
          rw [htk] at hRD HRR
          obtain ⟨hlr, hlo⟩ := hRD.set_all hTr
          have k0 := Blk.cell hRD.blk 0
          have k1' := Blk.cell hRD.blk 1
          have k2' := Blk.cell hRD.blk 2
          have k5 := Blk.cell hRD.blk 5
          have k6 := Blk.cell hRD.blk 6
          have f0 := Blk.frozen hRD.blk 0
          have f1 := Blk.frozen hRD.blk 1
          have f2 := Blk.frozen hRD.blk 2
          have f5 := Blk.frozen hRD.blk 5
          have f6 := Blk.frozen hRD.blk 6
          have hqq : A'.q = q := by rw [HQQ.out]; exact HQ.out
          rw [hqq] at hlr hlo k0 k1' k2' k5 k6 f0 f1 f2 f5 f6
          simp at k0 k1' k2' k5 k6
          have hql2 : q < wr.heap.size := lt_of_cell k0
          have hfin : RRestOut B0 R A (restartD d nst data zeros) w (.returned (.tuple #[])) (((((wr.setCell ⟨q, 0, none⟩ (.slice X LN c)).setCell ⟨q, 1, none⟩ (.slice X LN c)).setCell ⟨q, 2, none⟩ (.slice none 0 0)).setCell ⟨q, 5, none⟩ (.bool false)).setCell ⟨q, 6, none⟩ (.int .i64 0)) := by
            rw [HE.out]
            exact ⟨R', _, rfl, hlr, (HO6.out.trans hOr).trans hlo, HQ.out.symm⟩
          have HFIN := Lib.hid hfin
          clear hfin hlr hlo hRD hOr hTr hqq htk
          go_wp2_with fail
          go_end0
          exact HFIN.out
end
end Go.Proofs.YtdaidbnbfjgjeaaGreatDoor
