/- Merged: RdkWalksL, DskWalksZ, DskList. -/
import Derived.Test.YtdaidbnbfjgjeaaGreatDoorDsa19
import Derived.Test.YtdaidbnbfjgjeaaGreatDoorDsa14
import Derived.Sort.Walk0
import Derived.Test.YtdaidbnbfjgjeaaGreatDoorDsa15
set_option linter.unusedVariables false
set_option linter.unusedSimpArgs false
/-! ## RdkWalksL -/
/- The walks of layer 3 (disk), the document's: insert. -/
namespace Go.Proofs.YtdaidbnbfjgjeaaGreatDoor
open Go.RowKit Go.Shelf Go.Maps Go.Sort
attribute [local go_sem ↓] Go.wp_at_zero Go.wp_at_succ
attribute [local go_sem] Later.cell Later.frozen

theorem less_bytes (X Y : ByteArray) : Op.bytesLess X.toList Y.toList = decide (X.data.toList < Y.data.toList) := by
  rw [bytesLess_eq, ByteArray.toList_eq, ByteArray.toList_eq]
def encE (e : En) : List Value := [txtV e.name, .bool e.dir, .int .i64 (e.size : Int)]
def EnRow (w : World) (B : Nat) (v : Value) (l : List En) : Prop := w.ownsRow B 63 3 v l.length (l.flatMap encE)
theorem info_entry : (Tryz.prog.info? 63).map (fun i => (i.zero, i.size, i.bytes)) = some (some (.agg #[.string ⟨#[]⟩, .bool false, .int .i64 0]), 3, 32) := by kernel_rfl
theorem encE_at : ∀ {m : List En} {j : Nat} {e : En} (k : Nat), m[j]? = some e → k < 3 → (m.flatMap encE)[j * 3 + k]? = (encE e)[k]?
  | [], _, _, _, h, _ => by simp at h
  | f :: m, 0, e, k, h, hk => by
    simp at h
    subst h
    rw [List.flatMap_cons, Nat.zero_mul, Nat.zero_add, List.getElem?_append_left (by simpa [encE] using hk)]
  | f :: m, j + 1, e, k, h, hk => by
    rw [List.flatMap_cons, List.getElem?_append_right (by simp [encE]; omega)]
    rw [show (j + 1) * 3 + k - (encE f).length = j * 3 + k by simp [encE]; omega]
    exact encE_at k (by simpa using h) hk
theorem encE_set : ∀ (m : List En) (j : Nat) (e : En), j < m.length → (m.set j e).flatMap encE = (((m.flatMap encE).set (j * 3) (txtV e.name)).set (j * 3 + 1) (.bool e.dir)).set (j * 3 + 2) (.int .i64 (e.size : Int))
  | [], _, _, h => by simp at h
  | f :: m, 0, e, _ => by simp [encE]
  | f :: m, j + 1, e, h => by
    have key : ∀ (k : Nat) (x : Value) (l : List Value), (encE f ++ l).set ((j + 1) * 3 + k) x = encE f ++ l.set (j * 3 + k) x := fun k x l => by
      rw [List.set_append_right _ _ (by simp [encE]; omega), show (j + 1) * 3 + k - (encE f).length = j * 3 + k by simp [encE]; omega]
    have key0 : ∀ (x : Value) (l : List Value), (encE f ++ l).set ((j + 1) * 3) x = encE f ++ l.set (j * 3) x := fun x l => key 0 x l
    rw [List.set_cons_succ, List.flatMap_cons, encE_set m j e (by simpa using h), List.flatMap_cons, key0, key, key]
/-- The list with x at place i. -/
def withAt (es : List En) (x : En) (i : Nat) : List En := es.take i ++ x :: es.drop i
theorem withAt_len (es : List En) (x : En) {i : Nat} (h : i ≤ es.length) : (withAt es x i).length = es.length + 1 := by
  unfold withAt
  simp
  omega
theorem withAt_self {es : List En} {x : En} {i : Nat} (h : i ≤ es.length) : (withAt es x i)[i]? = some x := by
  unfold withAt
  rw [List.getElem?_append_right (by simp; omega)]
  simp
  rw [Nat.min_eq_left h]
  simp
theorem withAt_left {es : List En} {x : En} {i p : Nat} (h : i ≤ es.length) (hp : p < i) : (withAt es x i)[p]? = some es[p]! := by
  unfold withAt
  rw [List.getElem?_append_left (by simp; omega), List.getElem?_take_of_lt hp, List.getElem?_eq_getElem (by omega), getElem!_pos es p (by omega)]
theorem withAt_swap {es : List En} {x : En} {i p : Nat} (h : i ≤ es.length) (hp : p + 1 = i) : ((withAt es x i).set i es[p]!).set p x = withAt es x p := by
  subst hp
  unfold withAt
  have hpl : p < es.length := by omega
  have e1 : es.take (p + 1) = es.take p ++ [es[p]!] := by rw [List.take_succ_eq_append_getElem hpl, getElem!_pos es p hpl]
  have e2 : es.drop p = es[p]! :: es.drop (p + 1) := by rw [List.drop_eq_getElem_cons hpl, getElem!_pos es p hpl]
  have hl : (es.take p).length = p := by simp; omega
  rw [e1, e2, List.append_assoc]
  rw [List.set_append_right _ _ (by rw [hl]; omega), List.set_append_right _ _ (by rw [hl]; exact Nat.le_refl _), hl]
  rw [show p + 1 - p = 1 by omega, Nat.sub_self]
  rfl
theorem EnRow.cells {w : World} {B g n c : Nat} {m : List En} {e : En} {j : Nat} (h : w.ownsRow B 63 3 (.slice (some ⟨g, 0, none⟩) n c) n (m.flatMap encE)) (hm : m.length = n) (he : m[j]? = some e) :
    w.cell? ⟨g, j * 3, none⟩ = some (txtV e.name) ∧ w.cell? ⟨g, j * 3 + 1, none⟩ = some (.bool e.dir) ∧ w.cell? ⟨g, j * 3 + 2, none⟩ = some (.int .i64 (e.size : Int)) := by
  have hj := (List.getElem?_eq_some_iff.1 he).1
  have key : ∀ k, k < 3 → w.cell? ⟨g, j * 3 + k, none⟩ = (encE e)[k]? := fun k hk => by
    rw [World.ownsRow.cellAt h _ (by omega)]
    exact encE_at k he hk
  exact ⟨key 0 (by omega), key 1 (by omega), key 2 (by omega)⟩
theorem EnRow.put {w : World} {B g n c : Nat} {m : List En} {j : Nat} (h : w.ownsRow B 63 3 (.slice (some ⟨g, 0, none⟩) n c) n (m.flatMap encE)) (e : En) (hj : j < m.length) :
    (((w.setCell ⟨g, j * 3, none⟩ (txtV e.name)).setCell ⟨g, j * 3 + 1, none⟩ (.bool e.dir)).setCell ⟨g, j * 3 + 2, none⟩ (.int .i64 (e.size : Int))).ownsRow B 63 3 (.slice (some ⟨g, 0, none⟩) n c) n ((m.set j e).flatMap encE) ∧
    w.grownBy (((w.setCell ⟨g, j * 3, none⟩ (txtV e.name)).setCell ⟨g, j * 3 + 1, none⟩ (.bool e.dir)).setCell ⟨g, j * 3 + 2, none⟩ (.int .i64 (e.size : Int))) (some g) := by
  have s1 := World.ownsRow.stored h (j * 3) (txtV e.name)
  have s2 := World.ownsRow.stored s1.1 (j * 3 + 1) (.bool e.dir)
  have s3 := World.ownsRow.stored s2.1 (j * 3 + 2) (.int .i64 (e.size : Int))
  rw [encE_set m j e hj]
  exact ⟨s3.1, (s1.2.trans s2.2).trans s3.2⟩
def InsOut (w : World) (B : Nat) (v : Value) (l : List En) (e : Ending) (w' : World) : Prop :=
  ∃ v', e = .returned v' ∧ EnRow w' B v' l ∧ w.grownBy w' v.ownBlock

theorem grown_turn {w w1 w2 : World} {row : Option Nat} {g : Nat} (h : w.grownBy w1 row) (hg : row = some g ∨ w.heap.size ≤ g) (k : w1.grownBy w2 (some g)) : w.grownBy w2 row :=
  ⟨k.os.trans h.os, k.tape.trans h.tape, k.output.trans h.output, Nat.le_trans h.size k.size, fun j hj hne => (k.block j (Nat.lt_of_lt_of_le hj h.size) (fun e => by
    injection e with e
    rcases hg with h1 | h1
    · exact hne (by rw [h1, e])
    · omega)).trans (h.block j hj hne)⟩
theorem grown_below {w w1 w2 : World} {row : Option Nat} (h : w.grownBy w1 row) (k : Below w1.heap.size w1 w2) : w.grownBy w2 row :=
  ⟨k.os.trans h.os, k.tape.trans h.tape, k.output.trans h.output, Nat.le_trans h.size k.size, fun j hj hne => (k.block j (Nat.lt_of_lt_of_le hj h.size)).trans (h.block j hj hne)⟩
theorem own_below2 {w w' : World} {B : Nat} {T : TypeId} {sz n : Nat} {v : Value} {xs : List Value} (h : w.ownsRow B T sz v n xs) (k : Below w.heap.size w w') : w'.ownsRow B T sz v n xs :=
  ownsRow.same h fun g hg => k.block g (World.ownsRow.lt h g hg).2
set_option maxRecDepth 100000 in
set_option maxHeartbeats 4000000 in
theorem rinsert_calls (es : List En) (X : ByteArray) (D : Bool) (z B : Nat) (v : Value) (w : World) (h : EnRow w B v es) (hs : es.Pairwise LeE) (hn : es.length ≤ 1073741824) (hB : B ≤ w.heap.size) :
    Calls Tryz.prog 68 #[v, .agg #[.string X, .bool D, .int .i64 (z : Int)]] w (InsOut w B v (insE ⟨X.data.toList, D, z⟩ es)) := by
  obtain ⟨i0, hi0, hz0, hz1, hz2⟩ := info_parts info_entry
  obtain ⟨n, hn2⟩ : ∃ n, es.length = n := ⟨_, rfl⟩
  have hown : w.ownsRow B 63 3 v n (es.flatMap encE) := by have := h; unfold EnRow at this; rw [hn2] at this; exact this
  obtain ⟨A0, c0, rfl⟩ : ∃ A0 c0, v = .slice A0 n c0 := by
    rcases hown.2 with ⟨h1, h0⟩ | ⟨g, cap, cur, h1, _⟩
    · exact ⟨none, 0, by rw [h0]; exact h1⟩
    · exact ⟨_, cap, h1⟩
  rw [hn2] at hn
  have HN := Lib.hid hn2
  have HS := Lib.hid hs
  have HO := Lib.hid hown
  have hvs : ∀ g, (Value.slice A0 n c0).ownBlock = some g → g < w.heap.size := fun g hg => (World.ownsRow.lt hown g hg).2
  have HVS := Lib.hid hvs
  clear h hs hn2 hown hvs
  go_enter Tryz.func68, Tryz.ntmps68
  go_upto_region 1 with fail
  obtain ⟨W, hW⟩ : ∃ x, w.alloc (.cells #[.string X, .bool D, .int .i64 (z : Int)] 63) = x := ⟨_, rfl⟩
  have hk1 : Blk W w.heap.size 63 #[.string X, .bool D, .int .i64 (z : Int)] := by rw [← hW]; exact Blk.new _ _ _
  have ho1 : W.ownsRow B 63 3 (.slice A0 n c0) n (es.flatMap encE) := by rw [← hW]; exact World.ownsRow.alloc HO.out _
  have hg1 : w.grownBy W (Value.slice A0 n c0).ownBlock := by rw [← hW]; exact World.grownBy_alloc _ _ _
  rw [hW]
  obtain ⟨b, hbb⟩ : ∃ b, w.heap.size = b := ⟨_, rfl⟩
  have HBB := Lib.hid hbb
  rw [hbb] at hk1 ⊢
  have b0 := hk1.cell 0
  have b1 := hk1.cell 1
  have b2 := hk1.cell 2
  simp at b0 b1 b2
  have hbl := hk1.lt
  have HO1 := Lib.hid ho1
  have HG1 := Lib.hid hg1
  clear hW hbb hk1 ho1 hg1
  go_wp2_with (at_builtin; refine wpList_append_own_at _ rfl _ _ 60 rfl B 63 i0 (.agg #[.string ⟨#[]⟩, .bool false, .int .i64 0]) 3 32 Tryz.underlying60 hi0 hz0 hz1 hz2 rfl (by decide) _ _ _ rfl (HO1.out.alloc _) ⟨W.heap.size, 0, none⟩ 1 1 [.string X, .bool D, .int .i64 (z : Int)] rfl rfl ?p1 ?p2 ?p3 ?p4 ?p5 ?_)
  case p1 => exact news_of_blk (l := [.string X, .bool D, .int .i64 (z : Int)]) (Blk.new W _ _)
  case p2 => intro u hu; simp at hu; rcases hu with rfl | rfl | rfl <;> rfl
  case p3 => unfold maxLen; omega
  case p4 => omega
  case p5 => have := HG1.out.size; simp; omega
  intro v' w2 hown' hgrow hx9 hat
  have hall : w.grownBy w2 (Value.slice A0 n c0).ownBlock := (HG1.out.trans (World.grownBy_alloc W _ _)).trans hgrow
  obtain ⟨g, c6, rfl⟩ : ∃ g c6, v' = .slice (some ⟨g, 0, none⟩) (n + 1) c6 := by
    rcases hown'.2 with ⟨rfl, h0⟩ | ⟨g, cap, cur, rfl, _⟩
    · omega
    · exact ⟨_, cap, rfl⟩
  have hga : (Value.slice A0 n c0).ownBlock = some g ∨ w.heap.size ≤ g := by
    rcases hat with h1 | h1
    · exact .inl h1.symm
    · have h2 : some g = some (W.heap.size + 1) := h1
      injection h2 with h2
      have := HG1.out.size
      omega
  have hrow : w2.ownsRow B 63 3 (.slice (some ⟨g, 0, none⟩) (n + 1) c6) (n + 1) ((withAt es ⟨X.data.toList, D, z⟩ n).flatMap encE) := by
    have e1 : (withAt es ⟨X.data.toList, D, z⟩ n).flatMap encE = es.flatMap encE ++ [.string X, .bool D, .int .i64 (z : Int)] := by
      unfold withAt
      rw [← HN.out, List.take_length, List.drop_length, List.flatMap_append]
      simp [encE, txtV_self]
    rw [e1]
    exact hown'
  have HALL := Lib.hid hall
  have HGA := Lib.hid hga
  have HROW := Lib.hid hrow
  clear hown' hgrow hx9 hat hall hga hrow b0 b1 b2 hbl
  have hnn : ((n + 1 : Nat) : Int) - 1 = (n : Int) := by omega
  have hgl2 := (World.ownsRow.lt HROW.out g rfl).2
  go_wp2_with fail
  clear hnn
  go_loopg [5] n (fun gh s5 wr => gh ≤ n ∧ s5 = .int .i64 (gh : Int) ∧ wr.ownsRow B 63 3 (.slice (some ⟨g, 0, none⟩) (n + 1) c6) (n + 1) ((withAt es ⟨X.data.toList, D, z⟩ gh).flatMap encE) ∧ w.grownBy wr (Value.slice A0 n c0).ownBlock ∧ ∀ j, gh ≤ j → j < n → X.data.toList < es[j]!.name)
  case atStart => exact ⟨Nat.le_refl _, by first | rfl | go_num, HROW.out, HALL.out, fun j h1 h2 => absurd h1 (by omega)⟩
  case round =>
    obtain ⟨hle, rfl, hrow, hfr, hgt⟩ := hrel
    have hgl := (World.ownsRow.lt hrow g rfl).2
    have hxat := EnRow.cells hrow (withAt_len es _ (by rw [HN.out]; exact hle) ▸ by rw [HN.out]) (withAt_self (by rw [HN.out]; exact hle))
    have HROW2 := Lib.hid hrow
    have HFR := Lib.hid hfr
    have HGT := Lib.hid hgt
    obtain ⟨m0, m1, m2⟩ := hxat
    simp only [] at m0 m1 m2
    rw [txtV_self] at m0
    have hend : (gk = 0 ∨ ¬ X.data.toList < es[gk - 1]!.name) → ∀ w3, Below wr.heap.size wr w3 → InsOut w B (.slice A0 n c0) (insE ⟨X.data.toList, D, z⟩ es) (.returned (.slice (some ⟨g, 0, none⟩) (n + 1) c6)) w3 := by
      intro h1 w3 hb3
      refine ⟨_, rfl, ?_, grown_below HFR.out hb3⟩
      have e1 : insE ⟨X.data.toList, D, z⟩ es = withAt es ⟨X.data.toList, D, z⟩ gk := insE_near HS.out (by rw [HN.out]; exact hle) h1 (fun j h2 h3 => HGT.out j h2 (by rw [HN.out] at h3; exact h3))
      rw [e1]
      unfold EnRow
      rw [withAt_len es _ (by rw [HN.out]; exact hle), HN.out]
      exact own_below2 HROW2.out hb3
    have HEND := Lib.hid hend
    clear hrow hfr hgt hend
    by_cases h0 : gk = 0
    · have d1 : decide ((0 : Int) < (gk : Int)) = false := by simp; omega
      have d2 : decide (0 < gk) = false := by simp; omega
      have HE := Lib.hid (HEND.out (.inl h0))
      clear h0
      go_upto_region 3 with fail
      refine wp_region_later (by kernel_rfl) (by kernel_rfl) ?_
      repeat (go_big_quiet_step (fail))
      refine wpQuiet_nil ?_
      rintro w3 ⟨⟨_, hb3⟩, rfl⟩
      have HFIN := Lib.hid (HE.out _ hb3)
      clear hb3
      go_wp2_with fail
      go_ret
      exact HFIN.out
    · obtain ⟨p, hp⟩ : ∃ p, p + 1 = gk := ⟨gk - 1, by omega⟩
      have d1 : decide ((0 : Int) < (gk : Int)) = true := by simp; omega
      have d2 : decide (0 < gk) = true := by simp; omega
      have hgp : gk - 1 = p := by omega
      have HEND2 := Lib.hid (fun h => HEND.out (.inr (by rw [hgp]; exact h)))
      have hyat := EnRow.cells HROW2.out (withAt_len es _ (by rw [HN.out]; exact hle) ▸ by rw [HN.out]) (withAt_left (x := ⟨X.data.toList, D, z⟩) (p := p) (by rw [HN.out]; exact hle) (by omega))
      obtain ⟨y, hy⟩ : ∃ y, es[p]! = y := ⟨_, rfl⟩
      have HY := Lib.hid hy
      rw [hy] at hyat HEND2
      obtain ⟨j0, j1, j2⟩ := hyat
      obtain ⟨Y, hY⟩ : ∃ Y : ByteArray, (⟨y.name.toArray⟩ : ByteArray) = Y := ⟨_, rfl⟩
      have hYn : y.name = Y.data.toList := by rw [← hY]
      have hlt := less_bytes X Y
      rw [hYn, txtV_self] at j0
      rw [hYn] at HEND2
      have i1 : (gk : Int) - 1 = (p : Int) := by omega
      have i2 : IntKind.i64.wrap (p : Int) = (p : Int) := by apply IntWalk.i64_in <;> omega
      have i3 : (gk : Int) < (n : Int) + 1 := by omega
      have i4 : (p : Int) < (n : Int) + 1 := by omega
      have HYN := Lib.hid hYn
      have HP := Lib.hid hp
      clear h0 hy hY hYn hp hgp
      by_cases hl : X.data.toList < Y.data.toList
      · rw [decide_eq_true hl] at hlt
        go_upto_region 3 with fail
        refine wp_region_later (by kernel_rfl) (by kernel_rfl) ?_
        repeat (go_big_quiet_step (fail))
        refine wpQuiet_nil ?_
        rintro w3 ⟨⟨_, hb3⟩, rfl⟩
        have hrow3 := own_below2 HROW2.out hb3
        have hfr3 := grown_below HFR.out hb3
        have k0 : w3.cell? ⟨g, gk * 3, none⟩ = some (.string X) := (hb3.cell (p := ⟨g, gk * 3, none⟩) hgl).trans m0
        have k1 : w3.cell? ⟨g, gk * 3 + 1, none⟩ = some (.bool D) := (hb3.cell (p := ⟨g, gk * 3 + 1, none⟩) hgl).trans m1
        have k2 : w3.cell? ⟨g, gk * 3 + 2, none⟩ = some (.int .i64 (z : Int)) := (hb3.cell (p := ⟨g, gk * 3 + 2, none⟩) hgl).trans m2
        have l0 : w3.cell? ⟨g, p * 3, none⟩ = some (.string Y) := (hb3.cell (p := ⟨g, p * 3, none⟩) hgl).trans j0
        have l1 : w3.cell? ⟨g, p * 3 + 1, none⟩ = some (.bool y.dir) := (hb3.cell (p := ⟨g, p * 3 + 1, none⟩) hgl).trans j1
        have l2 : w3.cell? ⟨g, p * 3 + 2, none⟩ = some (.int .i64 (y.size : Int)) := (hb3.cell (p := ⟨g, p * 3 + 2, none⟩) hgl).trans j2
        have hgl3 : g < w3.heap.size := Nat.lt_of_lt_of_le hgl hb3.size
        clear m0 m1 m2 j0 j1 j2 hb3
        go_upto_region 6 with fail
        have hx4 : Blk (w3.alloc (.cells #[.string X, .bool D, .int .i64 (z : Int)] 63)) w3.heap.size 63 #[.string X, .bool D, .int .i64 (z : Int)] := Blk.new _ _ _
        have hrow4 : (w3.alloc (.cells #[.string X, .bool D, .int .i64 (z : Int)] 63)).ownsRow B 63 3 (.slice (some ⟨g, 0, none⟩) (n + 1) c6) (n + 1) ((withAt es ⟨X.data.toList, D, z⟩ gk).flatMap encE) := World.ownsRow.alloc hrow3 _
        have hfr4 : w.grownBy (w3.alloc (.cells #[.string X, .bool D, .int .i64 (z : Int)] 63)) (Value.slice A0 n c0).ownBlock := grown_below hfr3 ((Below.refl _ _).alloc (Nat.le_refl _) _)
        obtain ⟨w4, hw4⟩ : ∃ x, w3.alloc (.cells #[.string X, .bool D, .int .i64 (z : Int)] 63) = x := ⟨_, rfl⟩
        obtain ⟨u, hu⟩ : ∃ u, w3.heap.size = u := ⟨_, rfl⟩
        rw [hw4] at hx4 hrow4 hfr4 ⊢
        rw [hu] at hx4 hgl3 ⊢
        have hug : u ≠ g := by omega
        obtain ⟨l0, l1, l2⟩ := EnRow.cells hrow4 (withAt_len es _ (by rw [HN.out]; exact hle) ▸ by rw [HN.out]) (withAt_left (x := ⟨X.data.toList, D, z⟩) (p := p) (by rw [HN.out]; exact hle) (by omega))
        rw [HY.out] at l0 l1 l2
        rw [HYN.out, txtV_self] at l0
        obtain ⟨q0, q1, q2⟩ := EnRow.cells hrow4 (withAt_len es _ (by rw [HN.out]; exact hle) ▸ by rw [HN.out]) (withAt_self (x := ⟨X.data.toList, D, z⟩) (by rw [HN.out]; exact hle))
        have hput := EnRow.put hrow4 ⟨Y.data.toList, y.dir, y.size⟩ (j := gk) (by rw [withAt_len es _ (by rw [HN.out]; exact hle), HN.out]; omega)
        simp only [txtV_self] at hput q0 q1 q2
        have z0 := World.ownsRow.frozenAt hrow4 (gk * 3)
        have z1 := World.ownsRow.frozenAt hrow4 (gk * 3 + 1)
        have z2 := World.ownsRow.frozenAt hrow4 (gk * 3 + 2)
        have hfr5 := grown_turn hfr4 HGA.out hput.2
        have hx5 : Blk (((w4.setCell ⟨g, gk * 3, none⟩ (.string Y)).setCell ⟨g, gk * 3 + 1, none⟩ (.bool y.dir)).setCell ⟨g, gk * 3 + 2, none⟩ (.int .i64 (y.size : Int))) u 63 #[.string X, .bool D, .int .i64 (z : Int)] := ((hx4.far (p := ⟨g, gk * 3, none⟩) hug _).far (p := ⟨g, gk * 3 + 1, none⟩) hug _).far (p := ⟨g, gk * 3 + 2, none⟩) hug _
        have HROW5 := Lib.hid hput.1
        have HFR5 := Lib.hid hfr5
        have HX5 := Lib.hid hx5
        clear hput hfr5 hx5 hfr4 hfr3 hrow3 hw4 hu k0 k1 k2
        clear hrow4
        go_upto_region 7 with fail
        obtain ⟨w5, hw5⟩ : ∃ x, ((w4.setCell ⟨g, gk * 3, none⟩ (.string Y)).setCell ⟨g, gk * 3 + 1, none⟩ (.bool y.dir)).setCell ⟨g, gk * 3 + 2, none⟩ (.int .i64 (y.size : Int)) = x := ⟨_, rfl⟩
        have hrow5 := HROW5.out
        have hfr5 := HFR5.out
        have hx5 := HX5.out
        rw [hw5] at hrow5 hfr5 hx5 ⊢
        clear hw5 hx4 l0 l1 l2 q0 q1 q2 z0 z1 z2 HROW5 HFR5 HX5
        have hm5 : ((withAt es ⟨X.data.toList, D, z⟩ gk).set gk ⟨Y.data.toList, y.dir, y.size⟩).length = n + 1 := by rw [List.length_set, withAt_len es _ (by rw [HN.out]; exact hle), HN.out]
        have hye : (⟨Y.data.toList, y.dir, y.size⟩ : En) = es[p]! := by rw [HY.out, ← HYN.out]
        have hat5 : ((withAt es ⟨X.data.toList, D, z⟩ gk).set gk ⟨Y.data.toList, y.dir, y.size⟩)[p]? = some ⟨Y.data.toList, y.dir, y.size⟩ := by
          rw [List.getElem?_set_ne (by have := HP.out; omega), withAt_left (by rw [HN.out]; exact hle) (by have := HP.out; omega), hye]
        obtain ⟨q0, q1, q2⟩ := EnRow.cells hrow5 hm5 hat5
        have hput := EnRow.put hrow5 ⟨X.data.toList, D, z⟩ (j := p) (by rw [hm5]; have := HP.out; omega)
        simp only [txtV_self] at hput q0 q1 q2
        have hsw : ((withAt es ⟨X.data.toList, D, z⟩ gk).set gk ⟨Y.data.toList, y.dir, y.size⟩).set p ⟨X.data.toList, D, z⟩ = withAt es ⟨X.data.toList, D, z⟩ p := by
          rw [hye]
          exact withAt_swap (by rw [HN.out]; exact hle) HP.out
        rw [hsw] at hput
        have z0 := World.ownsRow.frozenAt hrow5 (p * 3)
        have z1 := World.ownsRow.frozenAt hrow5 (p * 3 + 1)
        have z2 := World.ownsRow.frozenAt hrow5 (p * 3 + 2)
        have v0 := hx5.cell 0
        have v1 := hx5.cell 1
        have v2 := hx5.cell 2
        simp at v0 v1 v2
        have HROW6 := Lib.hid hput.1
        have HFR6 := Lib.hid (grown_turn hfr5 HGA.out hput.2)
        have hgt2 : ∀ j, p ≤ j → j < n → X.data.toList < es[j]!.name := by
          intro j h1 h2
          by_cases e : j = p
          · rw [e, HY.out, HYN.out]; exact hl
          · exact HGT.out j (by have := HP.out; omega) h2
        have HGT2 := Lib.hid hgt2
        have i5 : gk - 1 = p := by have := HP.out; omega
        have hgk1 : 1 ≤ gk := by omega
        clear hput hfr5 hx5 hrow5 hm5 hye hat5 hsw hgt2 hl hlt
        have I5 := Lib.hid i5
        clear i5
        go_wp2_with fail
        go_roundg (gk - 1)
        case measure => omega
        case rel => exact ⟨by omega, by rw [I5.out], by rw [I5.out]; exact HROW6.out, HFR6.out, by rw [I5.out]; exact HGT2.out⟩
      · rw [decide_eq_false hl] at hlt
        have HE := Lib.hid (HEND2.out hl)
        clear hl
        go_upto_region 3 with fail
        refine wp_region_later (by kernel_rfl) (by kernel_rfl) ?_
        repeat (go_big_quiet_step (fail))
        refine wpQuiet_nil ?_
        rintro w3 ⟨⟨_, hb3⟩, rfl⟩
        have HFIN := Lib.hid (HE.out _ hb3)
        clear hb3
        go_wp2_with fail
        go_ret
        exact HFIN.out
end Go.Proofs.YtdaidbnbfjgjeaaGreatDoor

/-! ## DskWalksZ -/
/- The walks of layer 3 (disk): entries sorted. -/
namespace Go.Proofs.YtdaidbnbfjgjeaaGreatDoor
open Go.RowKit Go.Shelf Go.Maps Go.Sort
attribute [local go_sem ↓] Go.wp_at_zero Go.wp_at_succ
attribute [local go_sem] Later.cell Later.frozen

theorem cmp_neg : ∀ a b : Txt, Lib.compareBytes a b < 0 ↔ a < b
  | [], [] => by simp [Lib.compareBytes]
  | [], _ :: _ => by simp [Lib.compareBytes]
  | _ :: _, [] => by simp [Lib.compareBytes]
  | a :: p, b :: q => by
    rw [Lib.compareBytes, List.cons_lt_cons_iff]
    by_cases h1 : a < b
    · simp [h1]
    · rw [if_neg h1]
      by_cases h2 : b < a
      · rw [if_pos h2]
        have hne : a ≠ b := fun e => by subst e; exact UInt8.lt_irrefl _ h2
        simp [h1, hne]
      · rw [if_neg h2, cmp_neg p q]
        have he : a = b := UInt8.le_antisymm (UInt8.not_lt.1 h2) (UInt8.not_lt.1 h1)
        simp [h1, he]
def cfE (x y : En) : Int := Lib.compareBytes x.name y.name
theorem ltE (x y : En) : ltOf cfE x y = decide (x.name < y.name) := by
  unfold ltOf cfE
  rw [decide_eq_decide]
  exact cmp_neg _ _
theorem swoE : SWO (ltOf cfE) where
  irrefl x := by rw [ltE]; simp [List.lt_irrefl]
  trans x y z h1 h2 := by
    rw [ltE, decide_eq_true_eq] at h1 h2 ⊢
    exact List.lt_trans h1 h2
  ntrans x y z h1 h2 := by
    rw [ltE, decide_eq_false_iff_not] at h1 h2 ⊢
    exact List.not_lt.2 (List.le_trans (List.not_lt.1 h2) (List.not_lt.1 h1))
theorem encE_len (x : En) : (encE x).length = 3 := rfl
theorem encE_one (x : En) : ∀ v ∈ encE x, v.oneCell' = true := by
  intro v hv
  simp [encE] at hv
  rcases hv with rfl | rfl | rfl <;> rfl
theorem flatE_len (l : List En) : (l.flatMap encE).length = l.length * 3 := by
  induction l with
  | nil => rfl
  | cons x l ih => rw [List.flatMap_cons, List.length_append, ih, encE_len, List.length_cons]; omega
theorem flatE_get {l : List En} {t : Nat} (h : t < l.length * 3) : (l.flatMap encE)[t]? = some ((encE l[t / 3]!)[t % 3]!) := by
  have hl : t / 3 < l.length := by omega
  have h1 : l[t / 3]? = some l[t / 3]! := by rw [getElem!_pos l _ hl, List.getElem?_eq_getElem hl]
  have h2 := encE_at (t % 3) h1 (by omega)
  rw [show t / 3 * 3 + t % 3 = t by omega] at h2
  have h3 : t % 3 < (encE l[t / 3]!).length := by rw [encE_len]; omega
  rw [h2, List.getElem?_eq_getElem h3, getElem!_pos (encE l[t / 3]!) _ h3]
set_option maxHeartbeats 400000 in
theorem less_calls (x y : En) (W : World) :
    Calls Tryz.prog 46 #[.agg (encE x).toArray, .agg (encE y).toArray] W fun e w' => e = .returned (.int .i64 (cfE x y)) ∧ ∃ q os', w' = grow (W.drewN q) os' := by
  obtain ⟨xn, xd, xs⟩ := x
  obtain ⟨yn, yd, ys⟩ := y
  have hcon := fun W' => Tryz.strings_Compare ⟨xn.toArray⟩ ⟨yn.toArray⟩ W'
  simp only [List.toList_toArray] at hcon
  unfold cfE
  obtain ⟨r, hr⟩ : ∃ r, Lib.compareBytes xn yn = r := ⟨_, rfl⟩
  simp only [hr] at hcon ⊢
  have HC := Lib.hid hcon
  clear hcon hr
  unfold encE txtV
  obtain ⟨X, hX⟩ : ∃ X : ByteArray, (⟨xn.toArray⟩ : ByteArray) = X := ⟨_, rfl⟩
  obtain ⟨Y, hY⟩ : ∃ X : ByteArray, (⟨yn.toArray⟩ : ByteArray) = X := ⟨_, rfl⟩
  simp only [hX, hY] at HC ⊢
  clear hX hY
  go_enter Tryz.func46, Tryz.ntmps46
  go_wp2_with fail
  refine (HC.out _).mono ?_
  rintro e w' ⟨rfl, rfl⟩
  go_wp2_with fail
  go_ret
  exact ⟨rfl, 0, _, by rw [alloc_eq_grow, alloc_eq_grow, grow_grow]; rfl⟩
theorem grown_sortK {α : Type} [Inhabited α] (enc : α → List Value) (k : Nat) (w : World) (blk off n : Nat) (d : Array α) (os : Array Obj) : w.grownBy (sortWorldK enc k w blk off n d os) (some blk) := by
  refine ⟨rfl, rfl, rfl, ?_, ?_⟩
  · simp [sortWorldK, grow, putRowK, putRow, mapBlock, Sort.ahead]
  · intro j hj hne
    have hb : ¬ blk = j := fun e => hne (by rw [e])
    simp only [sortWorldK, grow, putRowK, putRow, mapBlock, Sort.ahead]
    rw [Array.getElem?_append_left (by simpa using hj), Array.getElem?_modify, if_neg hb]
def SortOut (w : World) (B g n cap : Nat) (l : List En) (e : Ending) (w' : World) : Prop :=
  e = .returned (.tuple #[]) ∧ ∃ l' : List En, l'.Perm l ∧ l'.Pairwise LeE ∧ w'.ownsRow B 59 3 (.slice (some ⟨g, 0, none⟩) n cap) n (l'.flatMap encE) ∧ w.grownBy w' (some g)
theorem sortent_calls (l : List En) (g cap n B : Nat) (w : World) (hown : w.ownsRow B 59 3 (.slice (some ⟨g, 0, none⟩) n cap) n (l.flatMap encE)) (hl : l.length = n) (hn : n ≤ 1073741824) :
    Calls Tryz.prog 45 #[.slice (some ⟨g, 0, none⟩) n cap, .func (.func 46) #[] #[]] w (SortOut w B g n cap l) := by
  have hlt := World.ownsRow.lt hown g rfl
  rcases hown.2 with ⟨he, _⟩ | ⟨g', cap', cur, he, h1, h2, h3, h4, h5, h6⟩
  · cases he
  · injection he with he _ hcc
    injection he with he
    injection he with he _ _
    subst he hcc
    have hH : HoldsK encE 3 w g 0 l.toArray := by
      intro t ht
      rw [size_flatK] at ht
      have ht' : t < l.length * 3 := by simpa using ht
      refine ⟨?_, by simp [World.frozen?, h2]⟩
      rw [get_flatK _ _ _ _ ht, Nat.zero_add, cell_of_row w g t cur _ (0, 0) h2]
      have e1 : cur[t]? = (l.flatMap encE)[t]? := by
        rw [← h6, List.getElem?_take_of_lt (by omega)]; simp
      rw [e1, flatE_get ht']
      simp only [List.getElem!_toArray, id]
    have eg : ∀ args w, (callFunc 46 args).run Tryz.prog w = .ok (.enter 46 args) w := enters_of Tryz.func46 (by kernel_rfl) rfl
    have hcon := AnyQ.slices_SortFunc Tryz.laysSFE 3 Tryz.isAgg59 Tryz.sizeOf59 encE encE_len encE_one cfE swoE 46 #[] g 0 cap l.toArray w eg (fun _ _ _ _ x y => less_calls x y _) hH hlt.2 (by simp; omega)
    simp only [List.size_toArray, hl] at hcon
    refine hcon.mono ?_
    rintro e w' ⟨rfl, d', m, os, hp, hs, rfl⟩
    obtain ⟨hsz, _, hpm⟩ := hp
    have hsz' : d'.size = n := by rw [hsz]; simpa using hl
    have hpm' : d'.toList.Perm l := by
      have e1 : (d'.extract 0 n) = d' := by rw [← hsz']; simp
      have e2 : (l.toArray.extract 0 n) = l.toArray := by rw [← hl]; simp
      rw [e1, e2] at hpm
      simpa using hpm
    refine ⟨rfl, d'.toList, hpm', ?_, ?_, grown_sortK _ _ _ _ _ _ _ _⟩
    · rw [List.pairwise_iff_getElem]
      intro i j hi hj hij
      have hi' : i < d'.size := by simpa using hi
      have hj' : j < d'.size := by simpa using hj
      have := hs i j (Nat.zero_le _) hij (by omega)
      rw [ltE, decide_eq_false_iff_not, getElem!_pos d' j hj', getElem!_pos d' i hi'] at this
      exact this
    · refine ⟨by rw [flatE_len]; simp [hsz'], .inr ⟨g, cap, putCells id 0 (flatK encE 3 d') cur, rfl, h1, ?_, h3, h4, by simp [putCells, h5], ?_⟩⟩
      · simp only [sortWorldK, grow, putRowK, putRow, mapBlock, Sort.ahead]
        rw [Array.getElem?_append_left (by simpa using hlt.2), Array.getElem?_modify, if_pos rfl, h2]
        rfl
      · apply List.ext_getElem?
        intro t
        by_cases ht : t < n * 3
        · rw [List.getElem?_take_of_lt ht, flatE_get (by simpa [hsz'] using ht)]
          have htc : t < cur.size := by rw [h5]; exact Nat.lt_of_lt_of_le ht (Nat.mul_le_mul_right 3 h3)
          have hts : t < (flatK encE 3 d').size := by rw [size_flatK, hsz']; exact ht
          simp only [putCells, Array.getElem?_toList, Array.getElem?_mapIdx, Array.getElem?_eq_getElem htc, Option.map_some]
          rw [if_pos ⟨Nat.zero_le _, by simpa using hts⟩, Nat.sub_zero, get_flatK _ _ _ _ (by rw [hsz']; exact ht)]
          congr 2
          have hq : t / 3 < d'.size := by omega
          rw [getElem!_pos d' _ hq, getElem!_pos d'.toList _ (by simpa using hq)]
          simp
        · rw [List.getElem?_eq_none (by rw [List.length_take]; omega), List.getElem?_eq_none (by rw [flatE_len]; simp [hsz']; omega)]
end Go.Proofs.YtdaidbnbfjgjeaaGreatDoor

/-! ## DskList -/
/- Layer 3 (disk): what a directory lists, entry by entry. No walk. -/
namespace Go.Proofs.YtdaidbnbfjgjeaaGreatDoor
open Go.RowKit Go.Shelf Go.Maps Go.Sort

theorem perm_of {out tgt : List En} (h1 : (out.map En.name).Nodup) (h2 : (tgt.map En.name).Nodup) (h : ∀ e, e ∈ out ↔ e ∈ tgt) : out.Perm tgt :=
  (List.perm_ext_iff_of_nodup (nodup_of_map h1) (nodup_of_map h2)).2 h
theorem left_step (left : Lit → Bool) (k z : Txt) : (left (.string z) && !(Lit.string z).sameKey (.string k)) = false ↔ (left (.string z) = false ∨ z = k) := by
  cases h1 : left (.string z) with
  | false => simp
  | true =>
    rw [Bool.true_and]
    constructor
    · intro h2
      right
      exact same_str.1 (by simpa using h2)
    · rintro (h2 | h2)
      · cases h2
      · rw [same_str.2 h2]; rfl
/-- The directories that have been visited. -/
def Inv1 (l : List Th) (left : Txt → Bool) (out : List En) : Prop :=
  (out.map En.name).Nodup ∧ ∀ e, e ∈ out ↔ ∃ x ∈ l, x.dir = true ∧ left x.path = false ∧ e = ⟨x.path, true, 0⟩
/-- .. and the files. -/
def Inv2 (d : Ds) (l : List Th) (left : Txt → Bool) (out : List En) : Prop :=
  (out.map En.name).Nodup ∧ ∀ e, e ∈ out ↔ (∃ x ∈ l, x.dir = true ∧ e = ⟨x.path, true, 0⟩) ∨ ∃ x ∈ l, x.dir = false ∧ slashAt x.path = none ∧ left x.path = false ∧ e = ⟨x.path, false, (nowAt d x.at_).length⟩
section
variable {d : Ds} {l : List Th} {n : Nat} {left left' : Txt → Bool} {out : List En}
theorem Inv1.start (h : ∀ x ∈ l, x.dir = true → left x.path = true) : Inv1 l left [] := by
  refine ⟨by simp, fun e => ⟨fun h => by simp at h, ?_⟩⟩
  rintro ⟨x, hx, h1, h2, _⟩
  rw [h x hx h1] at h2
  cases h2
theorem Inv1.step (hw : TW n l) (h : Inv1 l left out) {k : Txt} (hk : ∃ x ∈ l, x.dir = true ∧ x.path = k) (hlk : left k = true) (hl : ∀ z, left' z = false ↔ (left z = false ∨ z = k)) : Inv1 l left' (out ++ [⟨k, true, 0⟩]) := by
  obtain ⟨y, hy, hyd, rfl⟩ := hk
  refine ⟨?_, fun e => ?_⟩
  · rw [List.map_append, List.nodup_append]
    refine ⟨h.1, by simp, ?_⟩
    intro a ha b hb e
    simp at hb
    subst hb e
    obtain ⟨e1, he1, hne⟩ := List.mem_map.1 ha
    obtain ⟨x, hx, _, hx2, rfl⟩ := (h.2 e1).1 he1
    simp only at hne
    rw [hne] at hx2
    rw [hx2] at hlk
    cases hlk
  · rw [List.mem_append, h.2 e, List.mem_singleton]
    constructor
    · rintro (⟨x, hx, h1, h2, rfl⟩ | rfl)
      · exact ⟨x, hx, h1, (hl _).2 (.inl h2), rfl⟩
      · exact ⟨y, hy, hyd, (hl _).2 (.inr rfl), rfl⟩
    · rintro ⟨x, hx, h1, h2, rfl⟩
      rcases (hl _).1 h2 with h3 | h3
      · exact .inl ⟨x, hx, h1, h3, rfl⟩
      · exact .inr (by rw [h3])
theorem Inv1.to_two (hw : TW n l) (h : Inv1 l left out) (h0 : ∀ x, left x = false) (hs : ∀ x ∈ l, x.dir = false → left' x.path = true) : Inv2 d l left' out := by
  refine ⟨h.1, fun e => ?_⟩
  rw [h.2 e]
  constructor
  · rintro ⟨x, hx, h1, _, rfl⟩; exact .inl ⟨x, hx, h1, rfl⟩
  · rintro (⟨x, hx, h1, rfl⟩ | ⟨x, hx, h1, _, h3, rfl⟩)
    · exact ⟨x, hx, h1, h0 _, rfl⟩
    · rw [hs x hx h1] at h3
      cases h3
theorem Inv2.step (hw : TW n l) (h : Inv2 d l left out) {x : Th} (hx : x ∈ l) (hd : x.dir = false) (hs : slashAt x.path = none) (hlk : left x.path = true) (hl : ∀ z, left' z = false ↔ (left z = false ∨ z = x.path)) : Inv2 d l left' (out ++ [⟨x.path, false, (nowAt d x.at_).length⟩]) := by
  refine ⟨?_, fun e => ?_⟩
  · rw [List.map_append, List.nodup_append]
    refine ⟨h.1, by simp, ?_⟩
    intro a ha b hb e
    simp at hb
    subst hb e
    obtain ⟨e1, he1, hne⟩ := List.mem_map.1 ha
    rcases (h.2 e1).1 he1 with ⟨y, hy, hyd, rfl⟩ | ⟨y, hy, hyd, _, hy2, rfl⟩
    · have := path_one hw.nodup hy hx hne
      rw [this, hd] at hyd
      cases hyd
    · simp only at hne
      rw [hne, hlk] at hy2
      cases hy2
  · rw [List.mem_append, h.2 e, List.mem_singleton]
    constructor
    · rintro ((h1 | ⟨y, hy, h1, h2, h3, rfl⟩) | rfl)
      · exact .inl h1
      · exact .inr ⟨y, hy, h1, h2, (hl _).2 (.inl h3), rfl⟩
      · exact .inr ⟨x, hx, hd, hs, (hl _).2 (.inr rfl), rfl⟩
    · rintro (h1 | ⟨y, hy, h1, h2, h3, rfl⟩)
      · exact .inl (.inl h1)
      · rcases (hl _).1 h3 with h4 | h4
        · exact .inl (.inr ⟨y, hy, h1, h2, h4, rfl⟩)
        · have := path_one hw.nodup hy hx h4
          subst this
          exact .inr rfl
theorem Inv2.skip (hw : TW n l) (h : Inv2 d l left out) {x : Th} (hx : x ∈ l) (hs : slashAt x.path ≠ none) (hl : ∀ z, left' z = false ↔ (left z = false ∨ z = x.path)) : Inv2 d l left' out := by
  refine ⟨h.1, fun e => ?_⟩
  rw [h.2 e]
  constructor
  · rintro (h1 | ⟨y, hy, h1, h2, h3, rfl⟩)
    · exact .inl h1
    · exact .inr ⟨y, hy, h1, h2, (hl _).2 (.inl h3), rfl⟩
  · rintro (h1 | ⟨y, hy, h1, h2, h3, rfl⟩)
    · exact .inl h1
    · rcases (hl _).1 h3 with h4 | h4
      · exact .inr ⟨y, hy, h1, h2, h4, rfl⟩
      · rw [h4] at h2
        exact absurd h2 hs
theorem Inv1.len (h : Inv1 l left out) : out.length ≤ l.length := by
  have := nodup_len (out.map En.name) (l.map Th.path) h.1 (fun z hz => by
    obtain ⟨e, he, rfl⟩ := List.mem_map.1 hz
    obtain ⟨x, hx, _, _, rfl⟩ := (h.2 e).1 he
    exact List.mem_map.2 ⟨x, hx, rfl⟩)
  simpa using this
theorem Inv2.len (h : Inv2 d l left out) : out.length ≤ l.length := by
  have := nodup_len (out.map En.name) (l.map Th.path) h.1 (fun z hz => by
    obtain ⟨e, he, rfl⟩ := List.mem_map.1 hz
    rcases (h.2 e).1 he with ⟨x, hx, _, rfl⟩ | ⟨x, hx, _, _, _, rfl⟩
    · exact List.mem_map.2 ⟨x, hx, rfl⟩
    · exact List.mem_map.2 ⟨x, hx, rfl⟩)
  simpa using this
theorem Inv2.all (hw : TW n d.things) (h : Inv2 d d.things left out) (h0 : ∀ x, left x = false) : out.Perm (entD d []) := by
  refine perm_of h.1 (entD_nodup hw.nodup []) fun e => ?_
  rw [h.2 e]
  unfold entD
  rw [List.mem_filterMap]
  constructor
  · rintro (⟨x, hx, h1, rfl⟩ | ⟨x, hx, h1, h2, _, rfl⟩)
    · refine ⟨x, hx, ?_⟩
      rw [if_pos rfl, nameB_slash (hw.dirs x hx h1), h1]
      rfl
    · refine ⟨x, hx, ?_⟩
      rw [if_pos rfl, h2, h1]
      rfl
  · rintro ⟨x, hx, h1⟩
    rw [if_pos rfl] at h1
    cases hs : slashAt x.path with
    | some k => rw [hs] at h1; simp at h1
    | none =>
      rw [hs] at h1
      simp only [Option.isSome_none, Bool.false_eq_true, if_false, Option.some.injEq] at h1
      cases hd : x.dir with
      | true => exact .inl ⟨x, hx, hd, by rw [← h1, hd]; rfl⟩
      | false => exact .inr ⟨x, hx, hd, hs, h0 _, by rw [← h1, hd]; rfl⟩
/-- The files in a directory. -/
theorem dir_perm (hw : TW n d.things) {dir : Txt} (hn : dir ≠ []) {bs : List Txt} (hnd : bs.Nodup) (g : Txt → Nat) (hbs : ∀ s, s ∈ bs ↔ ∃ x ∈ d.things, x.dir = false ∧ x.path = dir ++ [47] ++ s) (hg : ∀ x ∈ d.things, ∀ s, x.dir = false → x.path = dir ++ [47] ++ s → g s = (nowAt d x.at_).length) :
    (bs.map fun s => (⟨s, false, g s⟩ : En)).Perm (entD d dir) := by
  have e0 : ((bs.map fun s => (⟨s, false, g s⟩ : En)).map En.name) = bs := by rw [List.map_map]; exact List.map_id _
  refine perm_of (by rw [e0]; exact hnd) (entD_nodup hw.nodup dir) fun e => ?_
  unfold entD
  rw [List.mem_map, List.mem_filterMap]
  constructor
  · rintro ⟨s, hs, rfl⟩
    obtain ⟨x, hx, hd, hp⟩ := (hbs s).1 hs
    refine ⟨x, hx, ?_⟩
    rw [if_neg hn, if_pos (inside_iff.2 ⟨s, hp⟩), hd, hg x hx s hd hp]
    simp [hp]
  · rintro ⟨x, hx, h1⟩
    rw [if_neg hn] at h1
    split at h1
    · rename_i hin
      obtain ⟨s, hs⟩ := inside_iff.1 hin
      have hd : x.dir = false := by
        cases hd : x.dir with
        | false => rfl
        | true =>
          have := name_not_inside (d := dir) (hw.dirs x hx hd)
          rw [this] at hin
          cases hin
      refine ⟨s, (hbs s).2 ⟨x, hx, hd, hs⟩, ?_⟩
      injection h1 with h1
      rw [← h1, hd, hg x hx s hd hs]
      simp [hs]
    · cases h1
end
theorem listD_ok {d : Ds} {n : Nat} (hw : TW n d.things) {dir : Txt} {l : List En} (hp : l.Perm (entD d dir)) (hs : l.Pairwise LeE) : l = sortE (entD d dir) := sortE_one hw.nodup hp hs
end Go.Proofs.YtdaidbnbfjgjeaaGreatDoor
