/- Merged: RdkWalksC, RdkMem2, RdkWalksD, RdkWalksE, RdkWalksF, RdkWalksG, RdkWalksL, DskWalksZ, DskList. -/
import Derived.Test.YtfpgbhimgfdddaaGreatDoorStb16
import Derived.Deep.Onto
import Derived.Test.YtfpgbhimgfdddaaGreatDoorStb15
import Derived.Sort.Walk0
set_option linter.unusedVariables false
set_option linter.unusedSimpArgs false
/-! ## RdkWalksC -/
/- The walks of layer 3 (disk), the document's: apply. -/
namespace Go.Proofs.YtfpgbhimgfdddaaGreatDoor
open Go.RowKit Go.Shelf Go.Maps Go.Sort
attribute [local go_sem ↓] Go.wp_at_zero Go.wp_at_succ
attribute [local go_sem] Later.cell Later.frozen

/-- What becomes of one thing; what is new. -/
def one : St → Th → List Th
  | .mkdir _, x => [x]
  | .create _ _, x => [x]
  | .remove a, x => if x.path == a || insideB x.path a then [] else [x]
  | .rename a b, x => if x.path == b then [] else [mv a b x]
def newS : St → List Th
  | .mkdir a => [⟨a, true, 0⟩]
  | .create a i => [⟨a, false, i⟩]
  | _ => []
theorem applyS_one (l : List Th) (s : St) : applyS l s = l.flatMap (one s) ++ newS s := by
  have hid : ∀ l : List Th, l.flatMap (fun x => [x]) = l := fun l => by
    induction l with
    | nil => rfl
    | cons x l ih => rw [List.flatMap_cons, ih]; rfl
  cases s with
  | mkdir a => show l ++ _ = l.flatMap (fun x => [x]) ++ _; rw [hid]; rfl
  | create a i => show l ++ _ = l.flatMap (fun x => [x]) ++ _; rw [hid]; rfl
  | remove a =>
    show l.filter (fun x => !(x.path == a || insideB x.path a)) = l.flatMap (one (.remove a)) ++ []
    rw [List.append_nil]
    induction l with
    | nil => rfl
    | cons x l ih =>
      rw [List.flatMap_cons, ← ih, List.filter_cons]
      rw [show one (.remove a) x = if (x.path == a || insideB x.path a) = true then [] else [x] from rfl]
      cases (x.path == a || insideB x.path a) <;> rfl
  | rename a b =>
    rw [applyS_rename]
    show _ = l.flatMap (one (.rename a b)) ++ []
    rw [List.append_nil]
    induction l with
    | nil => rfl
    | cons x l ih =>
      rw [List.flatMap_cons, ← ih, List.filter_cons]
      rw [show one (.rename a b) x = if (x.path == b) = true then [] else [mv a b x] from rfl]
      cases (x.path == b) <;> rfl
theorem one_len (s : St) (x : Th) : (one s x).length ≤ 1 := by
  cases s with
  | mkdir a => exact Nat.le_refl _
  | create a i => exact Nat.le_refl _
  | remove a =>
    rw [show one (.remove a) x = if (x.path == a || insideB x.path a) = true then [] else [x] from rfl]
    split
    · exact Nat.zero_le _
    · exact Nat.le_refl _
  | rename a b =>
    rw [show one (.rename a b) x = if (x.path == b) = true then [] else [mv a b x] from rfl]
    split
    · exact Nat.zero_le _
    · exact Nat.le_refl _
theorem ones_len (s : St) : ∀ l : List Th, (l.flatMap (one s)).length ≤ l.length
  | [] => Nat.le_refl _
  | x :: l => by
    have h1 := ones_len s l
    have h2 := one_len s x
    rw [List.flatMap_cons, List.length_append, List.length_cons]
    omega
theorem ones_take (s : St) {l : List Th} {i : Nat} (hi : i < l.length) : (l.take (i + 1)).flatMap (one s) = (l.take i).flatMap (one s) ++ one s l[i]! := by
  rw [List.take_succ_eq_append_getElem hi, List.flatMap_append, getElem!_pos l i hi]
  simp

theorem encT_of {V : ByteArray} {D : Bool} {z : Nat} : encT ⟨V.data.toList, D, z⟩ = [.string V, .bool D, .int .i64 (z : Int)] := by
  have : txtV V.data.toList = .string V := by unfold txtV; rw [← bytes_of rfl]
  unfold encT
  rw [this]


section
variable {l : List Th} {X : Option Addr} {n c : Nat} {w : World}
end
end Go.Proofs.YtfpgbhimgfdddaaGreatDoor

/-! ## RdkMem2 -/
/- Layer 3 (disk): the document's disk turned: new things, a step more, a file more, a file's bytes. -/
namespace Go.Proofs.YtfpgbhimgfdddaaGreatDoor
open Go.RowKit

section
variable {w w' : World} {R R' : Nat → Nat} {B0 : Nat} {A A' : RAdr} {d d' : Ds}


theorem setCell_rest (w : World) (p : Addr) (u : Value) : ∀ k, k < w.heap.size → k ≠ p.block → (w.setCell p u).heap[k]? = w.heap[k]? := fun k _ hk => Below.heap_setCell _ _ _ k hk


/-! ### the row of the files -/
theorem rowB_nil : rowB [] [] = [] := rfl
theorem rowB_cons (f : By) (fs : List By) (v : Value) (vs : List Value) : rowB (f :: fs) (v :: vs) = encB f v ++ rowB fs vs := rfl
theorem rowB_append : ∀ {fs : List By} {vs : List Value} (f : By) (v : Value), vs.length = fs.length → rowB (fs ++ [f]) (vs ++ [v]) = rowB fs vs ++ encB f v
  | [], [], f, v, _ => by simp [rowB]
  | _ :: fs, [], _, _, h => by simp at h
  | [], _ :: _, _, _, h => by simp at h
  | g :: fs, u :: vs, f, v, h => by
    rw [List.cons_append, List.cons_append, rowB_cons, rowB_append f v (by simpa using h), rowB_cons, List.append_assoc]
theorem rowB_at : ∀ {fs : List By} {vs : List Value} {i : Nat} {f : By} {v : Value} (j : Nat), fs[i]? = some f → vs[i]? = some v → j < 3 → (rowB fs vs)[i * 3 + j]? = (encB f v)[j]?
  | [], _, _, _, _, _, h, _, _ => by simp at h
  | _ :: _, [], _, _, _, _, _, h, _ => by simp at h
  | g :: fs, u :: vs, 0, f, v, j, h1, h2, hj => by
    simp at h1 h2
    subst h1 h2
    rw [rowB_cons, Nat.zero_mul, Nat.zero_add, List.getElem?_append_left (by simpa [encB] using hj)]
  | g :: fs, u :: vs, i + 1, f, v, j, h1, h2, hj => by
    rw [rowB_cons, List.getElem?_append_right (by simp [encB]; omega)]
    rw [show (i + 1) * 3 + j - (encB g u).length = i * 3 + j by simp [encB]; omega]
    exact rowB_at j (by simpa using h1) (by simpa using h2) hj
theorem rowB_set : ∀ {fs : List By} {vs : List Value} {i : Nat} (f : By) (v : Value), vs.length = fs.length → i < fs.length →
    rowB (fs.set i f) (vs.set i v) = (((rowB fs vs).set (i * 3) (txtV f.now)).set (i * 3 + 1) (txtV f.safe)).set (i * 3 + 2) v
  | [], _, _, _, _, _, h => by simp at h
  | _ :: _, [], _, _, _, h, _ => by simp at h
  | g :: fs, u :: vs, 0, f, v, h, _ => by simp [rowB_cons, encB]
  | g :: fs, u :: vs, i + 1, f, v, h, hi => by
    have e : ∀ (j : Nat) (x : Value) (l : List Value), (encB g u ++ l).set ((i + 1) * 3 + j) x = encB g u ++ l.set (i * 3 + j) x := fun j x l => by
      rw [List.set_append_right _ _ (by simp [encB]; omega), show (i + 1) * 3 + j - (encB g u).length = i * 3 + j by simp [encB]; omega]
    have e0 : ∀ (x : Value) (l : List Value), (encB g u ++ l).set ((i + 1) * 3) x = encB g u ++ l.set (i * 3) x := fun x l => e 0 x l
    rw [List.set_cons_succ, List.set_cons_succ, rowB_cons, rowB_set f v (by simpa using h) (by simpa using hi), rowB_cons, e0, e, e]
end
end Go.Proofs.YtfpgbhimgfdddaaGreatDoor

/-! ## RdkWalksD -/
/- The walks of layer 3 (disk), the document's: names. -/
namespace Go.Proofs.YtfpgbhimgfdddaaGreatDoor
open Go.RowKit Go.Shelf Go.Maps Go.Sort
attribute [local go_sem ↓] Go.wp_at_zero Go.wp_at_succ
attribute [local go_sem] Later.cell Later.frozen

section
variable {B0 : Nat} {R : Nat → Nat} {A : RAdr} {d : Ds}
end
end Go.Proofs.YtfpgbhimgfdddaaGreatDoor

/-! ## RdkWalksE -/
/- The walks of layer 3 (disk), the document's: Mkdir, Remove, Rename. -/
namespace Go.Proofs.YtfpgbhimgfdddaaGreatDoor
open Go.RowKit Go.Shelf Go.Maps Go.Sort
attribute [local go_sem ↓] Go.wp_at_zero Go.wp_at_succ
attribute [local go_sem] Later.cell Later.frozen

theorem txtV_self (S : ByteArray) : txtV S.data.toList = .string S := by unfold txtV; rw [← bytes_of rfl]
section
variable {B0 : Nat} {R : Nat → Nat} {A : RAdr} {d : Ds}
theorem things_short (hf : Fit d) : ∀ x ∈ d.things, x.path.length ≤ 1073741824 := fun x hx => paths_short hf.tw x.path (List.mem_map.2 ⟨x, hx, rfl⟩)

end
end Go.Proofs.YtfpgbhimgfdddaaGreatDoor

/-! ## RdkWalksF -/
/- The walks of layer 3 (disk), the document's: SyncNames, All, Read, Cut, Sync, Append. -/
namespace Go.Proofs.YtfpgbhimgfdddaaGreatDoor
open Go.RowKit Go.Shelf Go.Maps Go.Sort
attribute [local go_sem ↓] Go.wp_at_zero Go.wp_at_succ
attribute [local go_sem] Later.cell Later.frozen

section
variable {B0 : Nat} {R : Nat → Nat} {A : RAdr} {d : Ds}


theorem fileD_lt (hf : Fit d) {s : Txt} {i : Nat} (h : fileD d s = .ok i) : i < d.files.length := (fileD_ok hf h).1
theorem allD_error {s : Txt} {k : Nat} (h : fileD d s = .error k) : allD d s = ([], k) := by unfold allD; rw [h]
theorem allD_ok {s : Txt} {i : Nat} (h : fileD d s = .ok i) : allD d s = ((fAt d i).now, 0) := by unfold allD; rw [h]
theorem fileD_error {s : Txt} {k : Nat} (hr : fileD d s = .error k) : k ≠ 0 := by
  rintro rfl
  unfold fileD at hr
  split at hr
  · cases hr
  split at hr
  · cases hr
  unfold fileT at hr
  split at hr
  · cases hr
  split at hr <;> cases hr
end
end Go.Proofs.YtfpgbhimgfdddaaGreatDoor

/-! ## RdkWalksG -/
/- The walks of layer 3 (disk), the document's: Read, Sync, Flip, Cut, Append. -/
namespace Go.Proofs.YtfpgbhimgfdddaaGreatDoor
open Go.RowKit Go.Shelf Go.Maps Go.Sort
attribute [local go_sem ↓] Go.wp_at_zero Go.wp_at_succ
attribute [local go_sem] Later.cell Later.frozen

section
variable {B0 : Nat} {R : Nat → Nat} {A : RAdr} {d : Ds}

end
end Go.Proofs.YtfpgbhimgfdddaaGreatDoor

/-! ## RdkWalksL -/
/- The walks of layer 3 (disk), the document's: insert. -/
namespace Go.Proofs.YtfpgbhimgfdddaaGreatDoor
open Go.RowKit Go.Shelf Go.Maps Go.Sort
attribute [local go_sem ↓] Go.wp_at_zero Go.wp_at_succ
attribute [local go_sem] Later.cell Later.frozen

theorem less_bytes (X Y : ByteArray) : Op.bytesLess X.toList Y.toList = decide (X.data.toList < Y.data.toList) := by
  rw [bytesLess_eq, ByteArray.toList_eq, ByteArray.toList_eq]
def encE (e : En) : List Value := [txtV e.name, .bool e.dir, .int .i64 (e.size : Int)]
theorem encE_at : ∀ {m : List En} {j : Nat} {e : En} (k : Nat), m[j]? = some e → k < 3 → (m.flatMap encE)[j * 3 + k]? = (encE e)[k]?
  | [], _, _, _, h, _ => by simp at h
  | f :: m, 0, e, k, h, hk => by
    simp at h
    subst h
    rw [List.flatMap_cons, Nat.zero_mul, Nat.zero_add, List.getElem?_append_left (by simpa [encE] using hk)]
  | f :: m, j + 1, e, k, h, hk => by
    rw [List.flatMap_cons, List.getElem?_append_right (by simp [encE]; omega)]
    rw [show (j + 1) * 3 + k - (encE f).length = j * 3 + k by simp [encE]; omega]
    exact encE_at k (by simpa using h) hk
theorem encE_set : ∀ (m : List En) (j : Nat) (e : En), j < m.length → (m.set j e).flatMap encE = (((m.flatMap encE).set (j * 3) (txtV e.name)).set (j * 3 + 1) (.bool e.dir)).set (j * 3 + 2) (.int .i64 (e.size : Int))
  | [], _, _, h => by simp at h
  | f :: m, 0, e, _ => by simp [encE]
  | f :: m, j + 1, e, h => by
    have key : ∀ (k : Nat) (x : Value) (l : List Value), (encE f ++ l).set ((j + 1) * 3 + k) x = encE f ++ l.set (j * 3 + k) x := fun k x l => by
      rw [List.set_append_right _ _ (by simp [encE]; omega), show (j + 1) * 3 + k - (encE f).length = j * 3 + k by simp [encE]; omega]
    have key0 : ∀ (x : Value) (l : List Value), (encE f ++ l).set ((j + 1) * 3) x = encE f ++ l.set (j * 3) x := fun x l => key 0 x l
    rw [List.set_cons_succ, List.flatMap_cons, encE_set m j e (by simpa using h), List.flatMap_cons, key0, key, key]
/-- The list with x at place i. -/
def withAt (es : List En) (x : En) (i : Nat) : List En := es.take i ++ x :: es.drop i
theorem withAt_len (es : List En) (x : En) {i : Nat} (h : i ≤ es.length) : (withAt es x i).length = es.length + 1 := by
  unfold withAt
  simp
  omega
theorem withAt_self {es : List En} {x : En} {i : Nat} (h : i ≤ es.length) : (withAt es x i)[i]? = some x := by
  unfold withAt
  rw [List.getElem?_append_right (by simp; omega)]
  simp
  rw [Nat.min_eq_left h]
  simp
theorem withAt_left {es : List En} {x : En} {i p : Nat} (h : i ≤ es.length) (hp : p < i) : (withAt es x i)[p]? = some es[p]! := by
  unfold withAt
  rw [List.getElem?_append_left (by simp; omega), List.getElem?_take_of_lt hp, List.getElem?_eq_getElem (by omega), getElem!_pos es p (by omega)]
theorem withAt_swap {es : List En} {x : En} {i p : Nat} (h : i ≤ es.length) (hp : p + 1 = i) : ((withAt es x i).set i es[p]!).set p x = withAt es x p := by
  subst hp
  unfold withAt
  have hpl : p < es.length := by omega
  have e1 : es.take (p + 1) = es.take p ++ [es[p]!] := by rw [List.take_succ_eq_append_getElem hpl, getElem!_pos es p hpl]
  have e2 : es.drop p = es[p]! :: es.drop (p + 1) := by rw [List.drop_eq_getElem_cons hpl, getElem!_pos es p hpl]
  have hl : (es.take p).length = p := by simp; omega
  rw [e1, e2, List.append_assoc]
  rw [List.set_append_right _ _ (by rw [hl]; omega), List.set_append_right _ _ (by rw [hl]; exact Nat.le_refl _), hl]
  rw [show p + 1 - p = 1 by omega, Nat.sub_self]
  rfl

theorem grown_turn {w w1 w2 : World} {row : Option Nat} {g : Nat} (h : w.grownBy w1 row) (hg : row = some g ∨ w.heap.size ≤ g) (k : w1.grownBy w2 (some g)) : w.grownBy w2 row :=
  ⟨k.os.trans h.os, k.tape.trans h.tape, k.output.trans h.output, Nat.le_trans h.size k.size, fun j hj hne => (k.block j (Nat.lt_of_lt_of_le hj h.size) (fun e => by
    injection e with e
    rcases hg with h1 | h1
    · exact hne (by rw [h1, e])
    · omega)).trans (h.block j hj hne)⟩
theorem grown_below {w w1 w2 : World} {row : Option Nat} (h : w.grownBy w1 row) (k : Below w1.heap.size w1 w2) : w.grownBy w2 row :=
  ⟨k.os.trans h.os, k.tape.trans h.tape, k.output.trans h.output, Nat.le_trans h.size k.size, fun j hj hne => (k.block j (Nat.lt_of_lt_of_le hj h.size)).trans (h.block j hj hne)⟩
theorem own_below2 {w w' : World} {B : Nat} {T : TypeId} {sz n : Nat} {v : Value} {xs : List Value} (h : w.ownsRow B T sz v n xs) (k : Below w.heap.size w w') : w'.ownsRow B T sz v n xs :=
  ownsRow.same h fun g hg => k.block g (World.ownsRow.lt h g hg).2
end Go.Proofs.YtfpgbhimgfdddaaGreatDoor

/-! ## DskWalksZ -/
/- The walks of layer 3 (disk): entries sorted. -/
namespace Go.Proofs.YtfpgbhimgfdddaaGreatDoor
open Go.RowKit Go.Shelf Go.Maps Go.Sort
attribute [local go_sem ↓] Go.wp_at_zero Go.wp_at_succ
attribute [local go_sem] Later.cell Later.frozen

theorem cmp_neg : ∀ a b : Txt, Lib.compareBytes a b < 0 ↔ a < b
  | [], [] => by simp [Lib.compareBytes]
  | [], _ :: _ => by simp [Lib.compareBytes]
  | _ :: _, [] => by simp [Lib.compareBytes]
  | a :: p, b :: q => by
    rw [Lib.compareBytes, List.cons_lt_cons_iff]
    by_cases h1 : a < b
    · simp [h1]
    · rw [if_neg h1]
      by_cases h2 : b < a
      · rw [if_pos h2]
        have hne : a ≠ b := fun e => by subst e; exact UInt8.lt_irrefl _ h2
        simp [h1, hne]
      · rw [if_neg h2, cmp_neg p q]
        have he : a = b := UInt8.le_antisymm (UInt8.not_lt.1 h2) (UInt8.not_lt.1 h1)
        simp [h1, he]
def cfE (x y : En) : Int := Lib.compareBytes x.name y.name
theorem ltE (x y : En) : ltOf cfE x y = decide (x.name < y.name) := by
  unfold ltOf cfE
  rw [decide_eq_decide]
  exact cmp_neg _ _
theorem swoE : SWO (ltOf cfE) where
  irrefl x := by rw [ltE]; simp [List.lt_irrefl]
  trans x y z h1 h2 := by
    rw [ltE, decide_eq_true_eq] at h1 h2 ⊢
    exact List.lt_trans h1 h2
  ntrans x y z h1 h2 := by
    rw [ltE, decide_eq_false_iff_not] at h1 h2 ⊢
    exact List.not_lt.2 (List.le_trans (List.not_lt.1 h2) (List.not_lt.1 h1))
theorem encE_len (x : En) : (encE x).length = 3 := rfl
theorem encE_one (x : En) : ∀ v ∈ encE x, v.oneCell' = true := by
  intro v hv
  simp [encE] at hv
  rcases hv with rfl | rfl | rfl <;> rfl
theorem flatE_len (l : List En) : (l.flatMap encE).length = l.length * 3 := by
  induction l with
  | nil => rfl
  | cons x l ih => rw [List.flatMap_cons, List.length_append, ih, encE_len, List.length_cons]; omega
theorem flatE_get {l : List En} {t : Nat} (h : t < l.length * 3) : (l.flatMap encE)[t]? = some ((encE l[t / 3]!)[t % 3]!) := by
  have hl : t / 3 < l.length := by omega
  have h1 : l[t / 3]? = some l[t / 3]! := by rw [getElem!_pos l _ hl, List.getElem?_eq_getElem hl]
  have h2 := encE_at (t % 3) h1 (by omega)
  rw [show t / 3 * 3 + t % 3 = t by omega] at h2
  have h3 : t % 3 < (encE l[t / 3]!).length := by rw [encE_len]; omega
  rw [h2, List.getElem?_eq_getElem h3, getElem!_pos (encE l[t / 3]!) _ h3]
set_option maxHeartbeats 400000 in
theorem less_calls (x y : En) (W : World) :
    Calls Tryz.prog 84 #[.agg (encE x).toArray, .agg (encE y).toArray] W fun e w' => e = .returned (.int .i64 (cfE x y)) ∧ ∃ q os', w' = grow (W.drewN q) os' := by
  obtain ⟨xn, xd, xs⟩ := x
  obtain ⟨yn, yd, ys⟩ := y
  have hcon := fun W' => Tryz.strings_Compare ⟨xn.toArray⟩ ⟨yn.toArray⟩ W'
  simp only [List.toList_toArray] at hcon
  unfold cfE
  obtain ⟨r, hr⟩ : ∃ r, Lib.compareBytes xn yn = r := ⟨_, rfl⟩
  simp only [hr] at hcon ⊢
  have HC := Lib.hid hcon
  clear hcon hr
  unfold encE txtV
  obtain ⟨X, hX⟩ : ∃ X : ByteArray, (⟨xn.toArray⟩ : ByteArray) = X := ⟨_, rfl⟩
  obtain ⟨Y, hY⟩ : ∃ X : ByteArray, (⟨yn.toArray⟩ : ByteArray) = X := ⟨_, rfl⟩
  simp only [hX, hY] at HC ⊢
  clear hX hY
  go_enter Tryz.func84, Tryz.ntmps84
  go_wp2_with fail
  refine (HC.out _).mono ?_
  rintro e w' ⟨rfl, rfl⟩
  go_wp2_with fail
  go_ret
  exact ⟨rfl, 0, _, by rw [alloc_eq_grow, alloc_eq_grow, grow_grow]; rfl⟩
theorem grown_sortK {α : Type} [Inhabited α] (enc : α → List Value) (k : Nat) (w : World) (blk off n : Nat) (d : Array α) (os : Array Obj) : w.grownBy (sortWorldK enc k w blk off n d os) (some blk) := by
  refine ⟨rfl, rfl, rfl, ?_, ?_⟩
  · simp [sortWorldK, grow, putRowK, putRow, mapBlock, Sort.ahead]
  · intro j hj hne
    have hb : ¬ blk = j := fun e => hne (by rw [e])
    simp only [sortWorldK, grow, putRowK, putRow, mapBlock, Sort.ahead]
    rw [Array.getElem?_append_left (by simpa using hj), Array.getElem?_modify, if_neg hb]
def SortOut (w : World) (B g n cap : Nat) (l : List En) (e : Ending) (w' : World) : Prop :=
  e = .returned (.tuple #[]) ∧ ∃ l' : List En, l'.Perm l ∧ l'.Pairwise LeE ∧ w'.ownsRow B 167 3 (.slice (some ⟨g, 0, none⟩) n cap) n (l'.flatMap encE) ∧ w.grownBy w' (some g)
theorem sortent_calls (l : List En) (g cap n B : Nat) (w : World) (hown : w.ownsRow B 167 3 (.slice (some ⟨g, 0, none⟩) n cap) n (l.flatMap encE)) (hl : l.length = n) (hn : n ≤ 1073741824) :
    Calls Tryz.prog 83 #[.slice (some ⟨g, 0, none⟩) n cap, .func (.func 84) #[] #[]] w (SortOut w B g n cap l) := by
  have hlt := World.ownsRow.lt hown g rfl
  rcases hown.2 with ⟨he, _⟩ | ⟨g', cap', cur, he, h1, h2, h3, h4, h5, h6⟩
  · cases he
  · injection he with he _ hcc
    injection he with he
    injection he with he _ _
    subst he hcc
    have hH : HoldsK encE 3 w g 0 l.toArray := by
      intro t ht
      rw [size_flatK] at ht
      have ht' : t < l.length * 3 := by simpa using ht
      refine ⟨?_, by simp [World.frozen?, h2]⟩
      rw [get_flatK _ _ _ _ ht, Nat.zero_add, cell_of_row w g t cur _ (0, 0) h2]
      have e1 : cur[t]? = (l.flatMap encE)[t]? := by
        rw [← h6, List.getElem?_take_of_lt (by omega)]; simp
      rw [e1, flatE_get ht']
      simp only [List.getElem!_toArray, id]
    have eg : ∀ args w, (callFunc 84 args).run Tryz.prog w = .ok (.enter 84 args) w := enters_of Tryz.func84 (by kernel_rfl) rfl
    have hcon := AnyQ.slices_SortFunc Tryz.laysSFE 3 Tryz.isAgg167 Tryz.sizeOf167 encE encE_len encE_one cfE swoE 84 #[] g 0 cap l.toArray w eg (fun _ _ _ _ x y => less_calls x y _) hH hlt.2 (by simp; omega)
    simp only [List.size_toArray, hl] at hcon
    refine hcon.mono ?_
    rintro e w' ⟨rfl, d', m, os, hp, hs, rfl⟩
    obtain ⟨hsz, _, hpm⟩ := hp
    have hsz' : d'.size = n := by rw [hsz]; simpa using hl
    have hpm' : d'.toList.Perm l := by
      have e1 : (d'.extract 0 n) = d' := by rw [← hsz']; simp
      have e2 : (l.toArray.extract 0 n) = l.toArray := by rw [← hl]; simp
      rw [e1, e2] at hpm
      simpa using hpm
    refine ⟨rfl, d'.toList, hpm', ?_, ?_, grown_sortK _ _ _ _ _ _ _ _⟩
    · rw [List.pairwise_iff_getElem]
      intro i j hi hj hij
      have hi' : i < d'.size := by simpa using hi
      have hj' : j < d'.size := by simpa using hj
      have := hs i j (Nat.zero_le _) hij (by omega)
      rw [ltE, decide_eq_false_iff_not, getElem!_pos d' j hj', getElem!_pos d' i hi'] at this
      exact this
    · refine ⟨by rw [flatE_len]; simp [hsz'], .inr ⟨g, cap, putCells id 0 (flatK encE 3 d') cur, rfl, h1, ?_, h3, h4, by simp [putCells, h5], ?_⟩⟩
      · simp only [sortWorldK, grow, putRowK, putRow, mapBlock, Sort.ahead]
        rw [Array.getElem?_append_left (by simpa using hlt.2), Array.getElem?_modify, if_pos rfl, h2]
        rfl
      · apply List.ext_getElem?
        intro t
        by_cases ht : t < n * 3
        · rw [List.getElem?_take_of_lt ht, flatE_get (by simpa [hsz'] using ht)]
          have htc : t < cur.size := by rw [h5]; exact Nat.lt_of_lt_of_le ht (Nat.mul_le_mul_right 3 h3)
          have hts : t < (flatK encE 3 d').size := by rw [size_flatK, hsz']; exact ht
          simp only [putCells, Array.getElem?_toList, Array.getElem?_mapIdx, Array.getElem?_eq_getElem htc, Option.map_some]
          rw [if_pos ⟨Nat.zero_le _, by simpa using hts⟩, Nat.sub_zero, get_flatK _ _ _ _ (by rw [hsz']; exact ht)]
          congr 2
          have hq : t / 3 < d'.size := by omega
          rw [getElem!_pos d' _ hq, getElem!_pos d'.toList _ (by simpa using hq)]
          simp
        · rw [List.getElem?_eq_none (by rw [List.length_take]; omega), List.getElem?_eq_none (by rw [flatE_len]; simp [hsz']; omega)]
end Go.Proofs.YtfpgbhimgfdddaaGreatDoor

/-! ## DskList -/
/- Layer 3 (disk): what a directory lists, entry by entry. No walk. -/
namespace Go.Proofs.YtfpgbhimgfdddaaGreatDoor
open Go.RowKit Go.Shelf Go.Maps Go.Sort

theorem perm_of {out tgt : List En} (h1 : (out.map En.name).Nodup) (h2 : (tgt.map En.name).Nodup) (h : ∀ e, e ∈ out ↔ e ∈ tgt) : out.Perm tgt :=
  (List.perm_ext_iff_of_nodup (nodup_of_map h1) (nodup_of_map h2)).2 h
theorem left_step (left : Lit → Bool) (k z : Txt) : (left (.string z) && !(Lit.string z).sameKey (.string k)) = false ↔ (left (.string z) = false ∨ z = k) := by
  cases h1 : left (.string z) with
  | false => simp
  | true =>
    rw [Bool.true_and]
    constructor
    · intro h2
      right
      exact same_str.1 (by simpa using h2)
    · rintro (h2 | h2)
      · cases h2
      · rw [same_str.2 h2]; rfl
/-- The directories that have been visited. -/
def Inv1 (l : List Th) (left : Txt → Bool) (out : List En) : Prop :=
  (out.map En.name).Nodup ∧ ∀ e, e ∈ out ↔ ∃ x ∈ l, x.dir = true ∧ left x.path = false ∧ e = ⟨x.path, true, 0⟩
/-- .. and the files. -/
def Inv2 (d : Ds) (l : List Th) (left : Txt → Bool) (out : List En) : Prop :=
  (out.map En.name).Nodup ∧ ∀ e, e ∈ out ↔ (∃ x ∈ l, x.dir = true ∧ e = ⟨x.path, true, 0⟩) ∨ ∃ x ∈ l, x.dir = false ∧ slashAt x.path = none ∧ left x.path = false ∧ e = ⟨x.path, false, (nowAt d x.at_).length⟩
section
variable {d : Ds} {l : List Th} {n : Nat} {left left' : Txt → Bool} {out : List En}
theorem Inv1.start (h : ∀ x ∈ l, x.dir = true → left x.path = true) : Inv1 l left [] := by
  refine ⟨by simp, fun e => ⟨fun h => by simp at h, ?_⟩⟩
  rintro ⟨x, hx, h1, h2, _⟩
  rw [h x hx h1] at h2
  cases h2
theorem Inv1.step (hw : TW n l) (h : Inv1 l left out) {k : Txt} (hk : ∃ x ∈ l, x.dir = true ∧ x.path = k) (hlk : left k = true) (hl : ∀ z, left' z = false ↔ (left z = false ∨ z = k)) : Inv1 l left' (out ++ [⟨k, true, 0⟩]) := by
  obtain ⟨y, hy, hyd, rfl⟩ := hk
  refine ⟨?_, fun e => ?_⟩
  · rw [List.map_append, List.nodup_append]
    refine ⟨h.1, by simp, ?_⟩
    intro a ha b hb e
    simp at hb
    subst hb e
    obtain ⟨e1, he1, hne⟩ := List.mem_map.1 ha
    obtain ⟨x, hx, _, hx2, rfl⟩ := (h.2 e1).1 he1
    simp only at hne
    rw [hne] at hx2
    rw [hx2] at hlk
    cases hlk
  · rw [List.mem_append, h.2 e, List.mem_singleton]
    constructor
    · rintro (⟨x, hx, h1, h2, rfl⟩ | rfl)
      · exact ⟨x, hx, h1, (hl _).2 (.inl h2), rfl⟩
      · exact ⟨y, hy, hyd, (hl _).2 (.inr rfl), rfl⟩
    · rintro ⟨x, hx, h1, h2, rfl⟩
      rcases (hl _).1 h2 with h3 | h3
      · exact .inl ⟨x, hx, h1, h3, rfl⟩
      · exact .inr (by rw [h3])
theorem Inv1.to_two (hw : TW n l) (h : Inv1 l left out) (h0 : ∀ x, left x = false) (hs : ∀ x ∈ l, x.dir = false → left' x.path = true) : Inv2 d l left' out := by
  refine ⟨h.1, fun e => ?_⟩
  rw [h.2 e]
  constructor
  · rintro ⟨x, hx, h1, _, rfl⟩; exact .inl ⟨x, hx, h1, rfl⟩
  · rintro (⟨x, hx, h1, rfl⟩ | ⟨x, hx, h1, _, h3, rfl⟩)
    · exact ⟨x, hx, h1, h0 _, rfl⟩
    · rw [hs x hx h1] at h3
      cases h3
theorem Inv2.step (hw : TW n l) (h : Inv2 d l left out) {x : Th} (hx : x ∈ l) (hd : x.dir = false) (hs : slashAt x.path = none) (hlk : left x.path = true) (hl : ∀ z, left' z = false ↔ (left z = false ∨ z = x.path)) : Inv2 d l left' (out ++ [⟨x.path, false, (nowAt d x.at_).length⟩]) := by
  refine ⟨?_, fun e => ?_⟩
  · rw [List.map_append, List.nodup_append]
    refine ⟨h.1, by simp, ?_⟩
    intro a ha b hb e
    simp at hb
    subst hb e
    obtain ⟨e1, he1, hne⟩ := List.mem_map.1 ha
    rcases (h.2 e1).1 he1 with ⟨y, hy, hyd, rfl⟩ | ⟨y, hy, hyd, _, hy2, rfl⟩
    · have := path_one hw.nodup hy hx hne
      rw [this, hd] at hyd
      cases hyd
    · simp only at hne
      rw [hne, hlk] at hy2
      cases hy2
  · rw [List.mem_append, h.2 e, List.mem_singleton]
    constructor
    · rintro ((h1 | ⟨y, hy, h1, h2, h3, rfl⟩) | rfl)
      · exact .inl h1
      · exact .inr ⟨y, hy, h1, h2, (hl _).2 (.inl h3), rfl⟩
      · exact .inr ⟨x, hx, hd, hs, (hl _).2 (.inr rfl), rfl⟩
    · rintro (h1 | ⟨y, hy, h1, h2, h3, rfl⟩)
      · exact .inl (.inl h1)
      · rcases (hl _).1 h3 with h4 | h4
        · exact .inl (.inr ⟨y, hy, h1, h2, h4, rfl⟩)
        · have := path_one hw.nodup hy hx h4
          subst this
          exact .inr rfl
theorem Inv2.skip (hw : TW n l) (h : Inv2 d l left out) {x : Th} (hx : x ∈ l) (hs : slashAt x.path ≠ none) (hl : ∀ z, left' z = false ↔ (left z = false ∨ z = x.path)) : Inv2 d l left' out := by
  refine ⟨h.1, fun e => ?_⟩
  rw [h.2 e]
  constructor
  · rintro (h1 | ⟨y, hy, h1, h2, h3, rfl⟩)
    · exact .inl h1
    · exact .inr ⟨y, hy, h1, h2, (hl _).2 (.inl h3), rfl⟩
  · rintro (h1 | ⟨y, hy, h1, h2, h3, rfl⟩)
    · exact .inl h1
    · rcases (hl _).1 h3 with h4 | h4
      · exact .inr ⟨y, hy, h1, h2, h4, rfl⟩
      · rw [h4] at h2
        exact absurd h2 hs
theorem Inv1.len (h : Inv1 l left out) : out.length ≤ l.length := by
  have := nodup_len (out.map En.name) (l.map Th.path) h.1 (fun z hz => by
    obtain ⟨e, he, rfl⟩ := List.mem_map.1 hz
    obtain ⟨x, hx, _, _, rfl⟩ := (h.2 e).1 he
    exact List.mem_map.2 ⟨x, hx, rfl⟩)
  simpa using this
theorem Inv2.len (h : Inv2 d l left out) : out.length ≤ l.length := by
  have := nodup_len (out.map En.name) (l.map Th.path) h.1 (fun z hz => by
    obtain ⟨e, he, rfl⟩ := List.mem_map.1 hz
    rcases (h.2 e).1 he with ⟨x, hx, _, rfl⟩ | ⟨x, hx, _, _, _, rfl⟩
    · exact List.mem_map.2 ⟨x, hx, rfl⟩
    · exact List.mem_map.2 ⟨x, hx, rfl⟩)
  simpa using this
theorem Inv2.all (hw : TW n d.things) (h : Inv2 d d.things left out) (h0 : ∀ x, left x = false) : out.Perm (entD d []) := by
  refine perm_of h.1 (entD_nodup hw.nodup []) fun e => ?_
  rw [h.2 e]
  unfold entD
  rw [List.mem_filterMap]
  constructor
  · rintro (⟨x, hx, h1, rfl⟩ | ⟨x, hx, h1, h2, _, rfl⟩)
    · refine ⟨x, hx, ?_⟩
      rw [if_pos rfl, nameB_slash (hw.dirs x hx h1), h1]
      rfl
    · refine ⟨x, hx, ?_⟩
      rw [if_pos rfl, h2, h1]
      rfl
  · rintro ⟨x, hx, h1⟩
    rw [if_pos rfl] at h1
    cases hs : slashAt x.path with
    | some k => rw [hs] at h1; simp at h1
    | none =>
      rw [hs] at h1
      simp only [Option.isSome_none, Bool.false_eq_true, if_false, Option.some.injEq] at h1
      cases hd : x.dir with
      | true => exact .inl ⟨x, hx, hd, by rw [← h1, hd]; rfl⟩
      | false => exact .inr ⟨x, hx, hd, hs, h0 _, by rw [← h1, hd]; rfl⟩
/-- The files in a directory. -/
theorem dir_perm (hw : TW n d.things) {dir : Txt} (hn : dir ≠ []) {bs : List Txt} (hnd : bs.Nodup) (g : Txt → Nat) (hbs : ∀ s, s ∈ bs ↔ ∃ x ∈ d.things, x.dir = false ∧ x.path = dir ++ [47] ++ s) (hg : ∀ x ∈ d.things, ∀ s, x.dir = false → x.path = dir ++ [47] ++ s → g s = (nowAt d x.at_).length) :
    (bs.map fun s => (⟨s, false, g s⟩ : En)).Perm (entD d dir) := by
  have e0 : ((bs.map fun s => (⟨s, false, g s⟩ : En)).map En.name) = bs := by rw [List.map_map]; exact List.map_id _
  refine perm_of (by rw [e0]; exact hnd) (entD_nodup hw.nodup dir) fun e => ?_
  unfold entD
  rw [List.mem_map, List.mem_filterMap]
  constructor
  · rintro ⟨s, hs, rfl⟩
    obtain ⟨x, hx, hd, hp⟩ := (hbs s).1 hs
    refine ⟨x, hx, ?_⟩
    rw [if_neg hn, if_pos (inside_iff.2 ⟨s, hp⟩), hd, hg x hx s hd hp]
    simp [hp]
  · rintro ⟨x, hx, h1⟩
    rw [if_neg hn] at h1
    split at h1
    · rename_i hin
      obtain ⟨s, hs⟩ := inside_iff.1 hin
      have hd : x.dir = false := by
        cases hd : x.dir with
        | false => rfl
        | true =>
          have := name_not_inside (d := dir) (hw.dirs x hx hd)
          rw [this] at hin
          cases hin
      refine ⟨s, (hbs s).2 ⟨x, hx, hd, hs⟩, ?_⟩
      injection h1 with h1
      rw [← h1, hd, hg x hx s hd hs]
      simp [hs]
    · cases h1
end
theorem listD_ok {d : Ds} {n : Nat} (hw : TW n d.things) {dir : Txt} {l : List En} (hp : l.Perm (entD d dir)) (hs : l.Pairwise LeE) : l = sortE (entD d dir) := sortE_one hw.nodup hp hs
end Go.Proofs.YtfpgbhimgfdddaaGreatDoor
