/- Merged: RdkWalksC. -/
import Derived.Test.YtdaidbnbfjgjeaaGreatDoorDsa16
import Derived.Deep.Onto
set_option linter.unusedVariables false
set_option linter.unusedSimpArgs false
/-! ## RdkWalksC -/
/- The walks of layer 3 (disk), the document's: apply. -/
namespace Go.Proofs.YtdaidbnbfjgjeaaGreatDoor
open Go.RowKit Go.Shelf Go.Maps Go.Sort
attribute [local go_sem ↓] Go.wp_at_zero Go.wp_at_succ
attribute [local go_sem] Later.cell Later.frozen

/-- What becomes of one thing; what is new. -/
def one : St → Th → List Th
  | .mkdir _, x => [x]
  | .create _ _, x => [x]
  | .remove a, x => if x.path == a || insideB x.path a then [] else [x]
  | .rename a b, x => if x.path == b then [] else [mv a b x]
def newS : St → List Th
  | .mkdir a => [⟨a, true, 0⟩]
  | .create a i => [⟨a, false, i⟩]
  | _ => []
theorem applyS_one (l : List Th) (s : St) : applyS l s = l.flatMap (one s) ++ newS s := by
  have hid : ∀ l : List Th, l.flatMap (fun x => [x]) = l := fun l => by
    induction l with
    | nil => rfl
    | cons x l ih => rw [List.flatMap_cons, ih]; rfl
  cases s with
  | mkdir a => show l ++ _ = l.flatMap (fun x => [x]) ++ _; rw [hid]; rfl
  | create a i => show l ++ _ = l.flatMap (fun x => [x]) ++ _; rw [hid]; rfl
  | remove a =>
    show l.filter (fun x => !(x.path == a || insideB x.path a)) = l.flatMap (one (.remove a)) ++ []
    rw [List.append_nil]
    induction l with
    | nil => rfl
    | cons x l ih =>
      rw [List.flatMap_cons, ← ih, List.filter_cons]
      rw [show one (.remove a) x = if (x.path == a || insideB x.path a) = true then [] else [x] from rfl]
      cases (x.path == a || insideB x.path a) <;> rfl
  | rename a b =>
    rw [applyS_rename]
    show _ = l.flatMap (one (.rename a b)) ++ []
    rw [List.append_nil]
    induction l with
    | nil => rfl
    | cons x l ih =>
      rw [List.flatMap_cons, ← ih, List.filter_cons]
      rw [show one (.rename a b) x = if (x.path == b) = true then [] else [mv a b x] from rfl]
      cases (x.path == b) <;> rfl
theorem one_len (s : St) (x : Th) : (one s x).length ≤ 1 := by
  cases s with
  | mkdir a => exact Nat.le_refl _
  | create a i => exact Nat.le_refl _
  | remove a =>
    rw [show one (.remove a) x = if (x.path == a || insideB x.path a) = true then [] else [x] from rfl]
    split
    · exact Nat.zero_le _
    · exact Nat.le_refl _
  | rename a b =>
    rw [show one (.rename a b) x = if (x.path == b) = true then [] else [mv a b x] from rfl]
    split
    · exact Nat.zero_le _
    · exact Nat.le_refl _
theorem ones_len (s : St) : ∀ l : List Th, (l.flatMap (one s)).length ≤ l.length
  | [] => Nat.le_refl _
  | x :: l => by
    have h1 := ones_len s l
    have h2 := one_len s x
    rw [List.flatMap_cons, List.length_append, List.length_cons]
    omega
theorem ones_take (s : St) {l : List Th} {i : Nat} (hi : i < l.length) : (l.take (i + 1)).flatMap (one s) = (l.take i).flatMap (one s) ++ one s l[i]! := by
  rw [List.take_succ_eq_append_getElem hi, List.flatMap_append, getElem!_pos l i hi]
  simp
theorem info_thing : (Tryz.prog.info? 112).map (fun i => (i.zero, i.size, i.bytes)) = some (some (.agg #[.string ⟨#[]⟩, .bool false, .int .i64 0]), 3, 32) := by kernel_rfl

/-- The cells of a step. -/
def ApplyOut (w : World) (l : List Th) (e : Ending) (w' : World) : Prop :=
  ∃ v, e = .returned v ∧ w'.ownsRow w.heap.size 112 3 v l.length (l.flatMap encT) ∧ Below w.heap.size w w'
def ThRow (w : World) (B : Nat) (v : Value) (l : List Th) : Prop := w.ownsRow B 112 3 v l.length (l.flatMap encT)
theorem encT_of {V : ByteArray} {D : Bool} {z : Nat} : encT ⟨V.data.toList, D, z⟩ = [.string V, .bool D, .int .i64 (z : Int)] := by
  have : txtV V.data.toList = .string V := by unfold txtV; rw [← bytes_of rfl]
  unfold encT
  rw [this]


section
variable {l : List Th} {X : Option Addr} {n c : Nat} {w : World}
set_option maxRecDepth 100000 in
set_option maxHeartbeats 2000000 in
theorem rapply_remove (h : Ths w X n l) (S : ByteArray) (hS : S.size ≤ 1073741824) (hn : n ≤ 1073741824) (hpz : ∀ x ∈ l, x.path.length ≤ 1073741824) :
    Calls Tryz.prog 67 #[.slice X n c, .agg #[.int .i64 4, .string S, .string ⟨#[]⟩, .int .i64 0]] w (ApplyOut w (applyS l (.remove S.data.toList))) := by
  obtain ⟨STEP, hSTEP⟩ : ∃ s, St.remove S.data.toList = s := ⟨_, rfl⟩
  obtain ⟨S2, hS2⟩ : ∃ s : ByteArray, (⟨#[]⟩ : ByteArray) = s := ⟨_, rfl⟩
  have HSTEP := Lib.hid hSTEP
  rw [hSTEP, hS2]
  clear hSTEP hS2
  obtain ⟨i0, hi0, hz0, hz1, hz2⟩ := info_parts info_thing
  have hl : l.length = n := Elems.len h
  have HH := Lib.hid h
  have HL := Lib.hid hl
  have HPZ := Lib.hid hpz
  have HIN := Lib.hid (fun (T : ByteArray) (hT : T.size ≤ 1073741824) (w : World) => rinside_calls T S _ rfl w hT hS)
  clear h hl hpz
  go_enter Tryz.func67, Tryz.ntmps67
  go_wp2_with fail
  obtain ⟨q, hqq⟩ : ∃ q, w.heap.size = q := ⟨_, rfl⟩
  have HQ := Lib.hid hqq
  rw [hqq]
  clear hqq
  go_loopg [5, 6] n (fun g s5 s6 wr => ∃ (i : Nat) (v5 : Value), v5 = s5 ∧ i + g = n ∧ s6 = .int .i64 (i : Int) ∧ ThRow wr (q + 1) v5 ((l.take i).flatMap (one STEP)) ∧ Blk wr q 115 #[.int .i64 4, .string S, .string S2, .int .i64 0] ∧ Below q w wr)
  case atStart => exact ⟨0, _, rfl, by omega, rfl, World.ownsRow_nil _ _ _ _, Blk.newAt HQ.out.symm, by rw [← HQ.out]; exact (Below.refl _ _).alloc (Nat.le_refl _) _⟩
  case round =>
    obtain ⟨i, v5, rfl, hig, rfl, hown, hq, hB⟩ := hrel
    have HIG := Lib.hid hig
    clear hig
    by_cases hi : i < n
    · have hil : i < l.length := by have := HL.out; omega
      have el : decide ((i : Int) < (n : Int)) = true := by simp; omega
      have el' : decide (i < n) = true := by simp; omega
      obtain ⟨b, off, rfl, hbl, k0, k1, k2⟩ := HH.out.at_ hi
      have m0 := (hB.cell (p := ⟨b, off + i * 3, none⟩) (by rw [← HQ.out]; exact hbl)).trans k0
      have m1 := (hB.cell (p := ⟨b, off + i * 3 + 1, none⟩) (by rw [← HQ.out]; exact hbl)).trans k1
      have m2 := (hB.cell (p := ⟨b, off + i * 3 + 2, none⟩) (by rw [← HQ.out]; exact hbl)).trans k2
      have hxz := HPZ.out l[i]! (by rw [getElem!_pos l i hil]; exact List.getElem_mem hil)
      have htk := ones_take STEP hil
      obtain ⟨x, hx⟩ : ∃ x, l[i]! = x := ⟨_, rfl⟩
      rw [hx] at m0 m1 m2 hxz htk
      obtain ⟨T, hT⟩ : ∃ T : ByteArray, (⟨x.path.toArray⟩ : ByteArray) = T := ⟨_, rfl⟩
      have hT2 : x.path = T.data.toList := by rw [← hT]
      have hTz : T.size ≤ 1073741824 := by rw [← text_size3, ← hT2]; exact hxz
      have hxe : x = ⟨T.data.toList, x.dir, x.at_⟩ := by rw [← hT2]
      unfold txtV at m0
      rw [hT] at m0
      obtain ⟨D, hD⟩ : ∃ D, x.dir = D := ⟨_, rfl⟩
      obtain ⟨z, hz⟩ : ∃ z, x.at_ = z := ⟨_, rfl⟩
      rw [hD, hz] at hxe
      rw [hD] at m1
      rw [hz] at m2
      have HXE := Lib.hid hxe
      have hlen := ones_len STEP (l.take i)
      rw [List.length_take] at hlen
      obtain ⟨ys, hys⟩ : ∃ ys, (l.take i).flatMap (one STEP) = ys := ⟨_, rfl⟩
      rw [hys] at hown htk hlen
      have HTK := Lib.hid htk
      have hqs := hq.lt
      have hbr : b < wr.heap.size := by have := hB.size; have := HQ.out; omega
      clear k0 k1 k2 hx hT hT2 hD hz hxe hys htk hxz
      go_upto_region 6 with fail
      have hqz : q ≤ wr.heap.size := by omega
      have hB1 : Below q w (wr.alloc (.cells #[.string T, .bool D, .int .i64 (z : Int)] 112)) := hB.alloc hqz _
      have hx1 : Blk (wr.alloc (.cells #[.string T, .bool D, .int .i64 (z : Int)] 112)) wr.heap.size 112 #[.string T, .bool D, .int .i64 (z : Int)] := Blk.new _ _ _
      have hq1 := hq.alloc (.cells #[.string T, .bool D, .int .i64 (z : Int)] 112)
      have hown1 : (wr.alloc (.cells #[.string T, .bool D, .int .i64 (z : Int)] 112)).ownsRow (q + 1) 112 3 v5 ys.length (ys.flatMap encT) := World.ownsRow.alloc hown _
      have hpo : ∀ g, v5.ownBlock = some g → g < wr.heap.size := fun g hg => (World.ownsRow.lt hown g hg).2
      obtain ⟨w1, hw1⟩ : ∃ w1, wr.alloc (.cells #[.string T, .bool D, .int .i64 (z : Int)] 112) = w1 := ⟨_, rfl⟩
      obtain ⟨p, hp⟩ : ∃ p, wr.heap.size = p := ⟨_, rfl⟩
      rw [hw1] at hB1 hx1 hq1 hown1 ⊢
      rw [hp] at hx1 hpo hqs ⊢
      have HPO := Lib.hid hpo
      have HB1 := Lib.hid hB1
      have HX1 := Lib.hid hx1
      have HQ1 := Lib.hid hq1
      have HO1 := Lib.hid hown1
      obtain ⟨m, hm⟩ : ∃ m, ys.length = m := ⟨_, rfl⟩
      have HM := Lib.hid hm
      rw [hm] at hlen
      have xf := hx1.frozen 0
      have x0 : _ = some (Value.string T) := hx1.cell 0
      have x1 : _ = some (Value.bool D) := hx1.cell 1
      have x2 : _ = some (Value.int .i64 (z : Int)) := hx1.cell 2
      have q0 := hq1.cell 0
      have q1 := hq1.cell 1
      have q2 := hq1.cell 2
      simp at q0 q1 q2
      have hpl := hx1.lt
      have hql := hq1.lt
      clear hw1 hp hqz m0 m1 m2 hB hown hq hbr hB1 hx1 hq1 hown1 hpo hm
      go_wp2_with fail
      refine (HIN.out T hTz _).mono ?_
      rintro _ w3 ⟨rfl, rfl⟩
      obtain ⟨ins, hins⟩ : ∃ r, insideB T.data.toList S.data.toList = r := ⟨_, rfl⟩
      have HINS := Lib.hid hins
      rw [hins]
      clear hins
      have hone : one STEP x = if (T.data.toList == S.data.toList || ins) = true then [] else [⟨T.data.toList, D, z⟩] := by
        rw [← HSTEP.out, HXE.out, ← HINS.out]; rfl
      by_cases he : T = S
      · subst he
        have hone2 : one STEP x = [] := by rw [hone]; simp
        have HONE := Lib.hid hone2
        clear hone hone2
        have hown2 : ThRow w1 (q + 1) v5 ((l.take (i + 1)).flatMap (one STEP)) := by
          unfold ThRow
          rw [HTK.out, HONE.out, List.append_nil]
          exact HO1.out
        have hq2 := HQ1.out
        go_wp2_with fail
        go_roundg (gk - 1)
        case measure => have := HIG.out; omega
        case rel => exact ⟨i + 1, _, rfl, by have := HIG.out; omega, by go_num, hown2, hq2, HB1.out⟩
      · obtain ⟨e1, e2, e3, e4⟩ := ne_facts he
        have hne : (T.data.toList == S.data.toList) = false := by rw [beq_eq_false_iff_ne]; exact fun e => he (bytes_eq e)
        rw [hne, Bool.false_or] at hone
        clear he hne
        cases ins with
        | true =>
          rw [if_pos rfl] at hone
          have HONE := Lib.hid hone
          clear hone
          have hown2 : ThRow w1 (q + 1) v5 ((l.take (i + 1)).flatMap (one STEP)) := by
            unfold ThRow
            rw [HTK.out, HONE.out, List.append_nil]
            exact HO1.out
          have hq2 := HQ1.out
          go_wp2_with fail
          go_roundg (gk - 1)
          case measure => have := HIG.out; omega
          case rel => exact ⟨i + 1, _, rfl, by have := HIG.out; omega, by go_num, hown2, hq2, HB1.out⟩
        | false =>
          rw [if_neg (by decide)] at hone
          have HONE := Lib.hid hone
          clear hone
          go_wp2_with (at_builtin; refine wpList_append_own_at _ rfl _ _ 51 rfl (q + 1) 112 i0 (.agg #[.string ⟨#[]⟩, .bool false, .int .i64 0]) 3 32 Tryz.underlying51 hi0 hz0 hz1 hz2 rfl (by decide) _ _ _ rfl (HO1.out.alloc _) ⟨w1.heap.size, 0, none⟩ 1 1 [.string T, .bool D, .int .i64 (z : Int)] rfl rfl ?p1 ?p2 ?p3 ?p4 ?p5 ?_)
          case p1 => exact news_of_blk (l := [.string T, .bool D, .int .i64 (z : Int)]) (Blk.new w1 _ _)
          case p2 => intro u hu; simp at hu; rcases hu with rfl | rfl | rfl <;> rfl
          case p3 => unfold maxLen; have := HM.out; omega
          case p4 => have := HM.out; omega
          case p5 => simp; omega
          intro v' w2 hown' hgrow hx9 hat
          have hall : w1.grownBy w2 v5.ownBlock := (World.grownBy_alloc w1 _ _).trans hgrow
          have hqn : some q ≠ v5.ownBlock := fun e => by have := (World.ownsRow.lt HO1.out q e.symm).1; omega
          have hq2 := HQ1.out.grown hall hqn
          have hB2 : Below q w w2 := by
            have hb1 := HB1.out
            exact hb1.trans ⟨hall.os, hall.tape, hall.output, hall.size, fun k hk => hall.block k (by omega) (fun e => by have := (World.ownsRow.lt HO1.out k e.symm).1; omega)⟩
          have hown2 : ThRow w2 (q + 1) v' ((l.take (i + 1)).flatMap (one STEP)) := by
            have e1 : (ys ++ [(⟨T.data.toList, D, z⟩ : Th)]).flatMap encT = ys.flatMap encT ++ [.string T, .bool D, .int .i64 (z : Int)] := by rw [List.flatMap_append]; simp [encT_of]
            unfold ThRow
            rw [HTK.out, HONE.out, e1, List.length_append]
            exact hown'
          clear hown' hgrow hx9 hat x0 x1 x2 q0 q1 q2
          go_wp2_with fail
          go_roundg (gk - 1)
          case measure => have := HIG.out; omega
          case rel => exact ⟨i + 1, _, rfl, by have := HIG.out; omega, by go_num, hown2, hq2, hB2⟩
    · have el : decide ((i : Int) < (n : Int)) = false := by simp; omega
      have el' : decide (i < n) = false := by simp; omega
      have htk : l.take i = l := List.take_of_length_le (by have := HL.out; omega)
      rw [htk] at hown
      have hqc := hq.cell 0
      have hqd := hq.cell 1
      have hqe := hq.cell 3
      simp at hqc hqd hqe
      have hql := hq.lt
      clear htk
      have hfin : ApplyOut w (applyS l STEP) (.returned v5) wr := by
        rw [applyS_one, ← HSTEP.out]
        rw [← HSTEP.out] at hown
        simp only [newS, List.append_nil]
        exact ⟨v5, rfl, World.ownsRow.mono hown (by rw [HQ.out]; exact Nat.le_succ _), by rw [HQ.out]; exact hB⟩
      have HFIN := Lib.hid hfin
      clear hfin hown hq hB
      go_wp2_with fail
      go_ret
      exact HFIN.out
set_option maxRecDepth 100000 in
set_option maxHeartbeats 2000000 in
theorem rapply_mkdir (h : Ths w X n l) (S : ByteArray) (hS : S.size ≤ 1073741824) (hn : n ≤ 1073741824) (hpz : ∀ x ∈ l, x.path.length ≤ 1073741824) :
    Calls Tryz.prog 67 #[.slice X n c, .agg #[.int .i64 1, .string S, .string ⟨#[]⟩, .int .i64 0]] w (ApplyOut w (applyS l (.mkdir S.data.toList))) := by
  obtain ⟨STEP, hSTEP⟩ : ∃ s, St.mkdir S.data.toList = s := ⟨_, rfl⟩
  obtain ⟨S2, hS2⟩ : ∃ s : ByteArray, (⟨#[]⟩ : ByteArray) = s := ⟨_, rfl⟩
  have HSTEP := Lib.hid hSTEP
  rw [hSTEP, hS2]
  clear hSTEP hS2
  obtain ⟨i0, hi0, hz0, hz1, hz2⟩ := info_parts info_thing
  have hl : l.length = n := Elems.len h
  have HH := Lib.hid h
  have HL := Lib.hid hl
  have HPZ := Lib.hid hpz
  have HIN := Lib.hid (fun (T : ByteArray) (hT : T.size ≤ 1073741824) (w : World) => rinside_calls T S _ rfl w hT hS)
  clear h hl hpz
  go_enter Tryz.func67, Tryz.ntmps67
  go_wp2_with fail
  obtain ⟨q, hqq⟩ : ∃ q, w.heap.size = q := ⟨_, rfl⟩
  have HQ := Lib.hid hqq
  rw [hqq]
  clear hqq
  go_loopg [5, 6] n (fun g s5 s6 wr => ∃ (i : Nat) (v5 : Value), v5 = s5 ∧ i + g = n ∧ s6 = .int .i64 (i : Int) ∧ ThRow wr (q + 1) v5 ((l.take i).flatMap (one STEP)) ∧ Blk wr q 115 #[.int .i64 1, .string S, .string S2, .int .i64 0] ∧ Below q w wr)
  case atStart => exact ⟨0, _, rfl, by omega, rfl, World.ownsRow_nil _ _ _ _, Blk.newAt HQ.out.symm, by rw [← HQ.out]; exact (Below.refl _ _).alloc (Nat.le_refl _) _⟩
  case round =>
    obtain ⟨i, v5, rfl, hig, rfl, hown, hq, hB⟩ := hrel
    have HIG := Lib.hid hig
    clear hig
    by_cases hi : i < n
    · have hil : i < l.length := by have := HL.out; omega
      have el : decide ((i : Int) < (n : Int)) = true := by simp; omega
      have el' : decide (i < n) = true := by simp; omega
      obtain ⟨b, off, rfl, hbl, k0, k1, k2⟩ := HH.out.at_ hi
      have m0 := (hB.cell (p := ⟨b, off + i * 3, none⟩) (by rw [← HQ.out]; exact hbl)).trans k0
      have m1 := (hB.cell (p := ⟨b, off + i * 3 + 1, none⟩) (by rw [← HQ.out]; exact hbl)).trans k1
      have m2 := (hB.cell (p := ⟨b, off + i * 3 + 2, none⟩) (by rw [← HQ.out]; exact hbl)).trans k2
      have hxz := HPZ.out l[i]! (by rw [getElem!_pos l i hil]; exact List.getElem_mem hil)
      have htk := ones_take STEP hil
      obtain ⟨x, hx⟩ : ∃ x, l[i]! = x := ⟨_, rfl⟩
      rw [hx] at m0 m1 m2 hxz htk
      obtain ⟨T, hT⟩ : ∃ T : ByteArray, (⟨x.path.toArray⟩ : ByteArray) = T := ⟨_, rfl⟩
      have hT2 : x.path = T.data.toList := by rw [← hT]
      have hTz : T.size ≤ 1073741824 := by rw [← text_size3, ← hT2]; exact hxz
      have hxe : x = ⟨T.data.toList, x.dir, x.at_⟩ := by rw [← hT2]
      unfold txtV at m0
      rw [hT] at m0
      obtain ⟨D, hD⟩ : ∃ D, x.dir = D := ⟨_, rfl⟩
      obtain ⟨z, hz⟩ : ∃ z, x.at_ = z := ⟨_, rfl⟩
      rw [hD, hz] at hxe
      rw [hD] at m1
      rw [hz] at m2
      have HXE := Lib.hid hxe
      have hlen := ones_len STEP (l.take i)
      rw [List.length_take] at hlen
      obtain ⟨ys, hys⟩ : ∃ ys, (l.take i).flatMap (one STEP) = ys := ⟨_, rfl⟩
      rw [hys] at hown htk hlen
      have HTK := Lib.hid htk
      have hqs := hq.lt
      have hbr : b < wr.heap.size := by have := hB.size; have := HQ.out; omega
      clear k0 k1 k2 hx hT hT2 hD hz hxe hys htk hxz
      go_upto_region 6 with fail
      have hqz : q ≤ wr.heap.size := by omega
      have hB1 : Below q w (wr.alloc (.cells #[.string T, .bool D, .int .i64 (z : Int)] 112)) := hB.alloc hqz _
      have hx1 : Blk (wr.alloc (.cells #[.string T, .bool D, .int .i64 (z : Int)] 112)) wr.heap.size 112 #[.string T, .bool D, .int .i64 (z : Int)] := Blk.new _ _ _
      have hq1 := hq.alloc (.cells #[.string T, .bool D, .int .i64 (z : Int)] 112)
      have hown1 : (wr.alloc (.cells #[.string T, .bool D, .int .i64 (z : Int)] 112)).ownsRow (q + 1) 112 3 v5 ys.length (ys.flatMap encT) := World.ownsRow.alloc hown _
      have hpo : ∀ g, v5.ownBlock = some g → g < wr.heap.size := fun g hg => (World.ownsRow.lt hown g hg).2
      obtain ⟨w1, hw1⟩ : ∃ w1, wr.alloc (.cells #[.string T, .bool D, .int .i64 (z : Int)] 112) = w1 := ⟨_, rfl⟩
      obtain ⟨p, hp⟩ : ∃ p, wr.heap.size = p := ⟨_, rfl⟩
      rw [hw1] at hB1 hx1 hq1 hown1 ⊢
      rw [hp] at hx1 hpo hqs ⊢
      have HPO := Lib.hid hpo
      have HB1 := Lib.hid hB1
      have HX1 := Lib.hid hx1
      have HQ1 := Lib.hid hq1
      have HO1 := Lib.hid hown1
      obtain ⟨m, hm⟩ : ∃ m, ys.length = m := ⟨_, rfl⟩
      have HM := Lib.hid hm
      rw [hm] at hlen
      have xf := hx1.frozen 0
      have x0 : _ = some (Value.string T) := hx1.cell 0
      have x1 : _ = some (Value.bool D) := hx1.cell 1
      have x2 : _ = some (Value.int .i64 (z : Int)) := hx1.cell 2
      have q0 := hq1.cell 0
      have q1 := hq1.cell 1
      have q2 := hq1.cell 2
      simp at q0 q1 q2
      have hpl := hx1.lt
      have hql := hq1.lt
      clear hw1 hp hqz m0 m1 m2 hB hown hq hbr hB1 hx1 hq1 hown1 hpo hm
      go_wp2_with fail
      refine (HIN.out T hTz _).mono ?_
      rintro _ w3 ⟨rfl, rfl⟩
      obtain ⟨ins, hins⟩ : ∃ r, insideB T.data.toList S.data.toList = r := ⟨_, rfl⟩
      have HINS := Lib.hid hins
      rw [hins]
      clear hins
      have hone : one STEP x = [⟨T.data.toList, D, z⟩] := by rw [← HSTEP.out, HXE.out]; rfl
      have HONE := Lib.hid hone
      clear hone
      go_wp2_with (at_builtin; refine wpList_append_own_at _ rfl _ _ 51 rfl (q + 1) 112 i0 (.agg #[.string ⟨#[]⟩, .bool false, .int .i64 0]) 3 32 Tryz.underlying51 hi0 hz0 hz1 hz2 rfl (by decide) _ _ _ rfl (HO1.out.alloc _) ⟨w1.heap.size, 0, none⟩ 1 1 [.string T, .bool D, .int .i64 (z : Int)] rfl rfl ?p1 ?p2 ?p3 ?p4 ?p5 ?_)
      case p1 => exact news_of_blk (l := [.string T, .bool D, .int .i64 (z : Int)]) (Blk.new w1 _ _)
      case p2 => intro u hu; simp at hu; rcases hu with rfl | rfl | rfl <;> rfl
      case p3 => unfold maxLen; have := HM.out; omega
      case p4 => have := HM.out; omega
      case p5 => simp; omega
      intro v' w2 hown' hgrow hx9 hat
      have hall : w1.grownBy w2 v5.ownBlock := (World.grownBy_alloc w1 _ _).trans hgrow
      have hqn : some q ≠ v5.ownBlock := fun e => by have := (World.ownsRow.lt HO1.out q e.symm).1; omega
      have hq2 := HQ1.out.grown hall hqn
      have hB2 : Below q w w2 := by
        have hb1 := HB1.out
        exact hb1.trans ⟨hall.os, hall.tape, hall.output, hall.size, fun k hk => hall.block k (by omega) (fun e => by have := (World.ownsRow.lt HO1.out k e.symm).1; omega)⟩
      have hown2 : ThRow w2 (q + 1) v' ((l.take (i + 1)).flatMap (one STEP)) := by
        have e1 : (ys ++ [(⟨T.data.toList, D, z⟩ : Th)]).flatMap encT = ys.flatMap encT ++ [.string T, .bool D, .int .i64 (z : Int)] := by rw [List.flatMap_append]; simp [encT_of]
        unfold ThRow
        rw [HTK.out, HONE.out, e1, List.length_append]
        exact hown'
      clear hown' hgrow hx9 hat x0 x1 x2 q0 q1 q2
      go_wp2_with fail
      go_roundg (gk - 1)
      case measure => have := HIG.out; omega
      case rel => exact ⟨i + 1, _, rfl, by have := HIG.out; omega, by go_num, hown2, hq2, hB2⟩
    · have el : decide ((i : Int) < (n : Int)) = false := by simp; omega
      have el' : decide (i < n) = false := by simp; omega
      have htk : l.take i = l := List.take_of_length_le (by have := HL.out; omega)
      rw [htk] at hown
      have hqc := hq.cell 0
      have hqd := hq.cell 1
      have hqe := hq.cell 3
      simp at hqc hqd hqe
      have hql := hq.lt
      clear htk
      have hlen := ones_len STEP l
      obtain ⟨ys, hys⟩ : ∃ ys, l.flatMap (one STEP) = ys := ⟨_, rfl⟩
      rw [hys] at hown hlen
      have HYS := Lib.hid hys
      have HO := Lib.hid hown
      have HB := Lib.hid hB
      have hown1 : wr.ownsRow (q + 1) 112 3 v5 ys.length (ys.flatMap encT) := hown
      have hsz : q + 1 ≤ wr.heap.size := hql
      have hln : ys.length ≤ 1073741824 := by have := HL.out; omega
      obtain ⟨m, hm⟩ : ∃ m, ys.length = m := ⟨_, rfl⟩
      have HM := Lib.hid hm
      rw [hm] at hown1 hln
      have HO1 := Lib.hid hown1
      clear hys hown hB hq hown1 hm
      go_wp2_with (at_builtin; refine wpList_append_own_at _ rfl _ _ 51 rfl (q + 1) 112 i0 (.agg #[.string ⟨#[]⟩, .bool false, .int .i64 0]) 3 32 Tryz.underlying51 hi0 hz0 hz1 hz2 rfl (by decide) _ _ _ rfl (HO1.out.alloc _) ⟨wr.heap.size, 0, none⟩ 1 1 [.string S, .bool true, .int .i64 (0 : Int)] rfl rfl ?p1 ?p2 ?p3 ?p4 ?p5 ?_)
      case p1 => exact news_of_blk (l := [.string S, .bool true, .int .i64 (0 : Int)]) (Blk.new wr _ _)
      case p2 => intro u hu; simp at hu; rcases hu with rfl | rfl | rfl <;> rfl
      case p3 => unfold maxLen; omega
      case p4 => omega
      case p5 => simp; omega
      intro v' w2 hown' hgrow hx9 hat
      have hall : wr.grownBy w2 v5.ownBlock := (World.grownBy_alloc wr _ _).trans hgrow
      have hB2 : Below q w w2 := by
        have hb1 := HB.out
        exact hb1.trans ⟨hall.os, hall.tape, hall.output, hall.size, fun k hk => hall.block k (by omega) (fun e => by have := (World.ownsRow.lt HO1.out k e.symm).1; omega)⟩
      have hfin : ApplyOut w (applyS l STEP) (.returned v') w2 := by
        rw [applyS_one, HYS.out, ← HSTEP.out]
        refine ⟨v', rfl, ?_, by rw [HQ.out]; exact hB2⟩
        have e1 : (ys ++ [(⟨S.data.toList, true, 0⟩ : Th)]).flatMap encT = ys.flatMap encT ++ [.string S, .bool true, .int .i64 (0 : Int)] := by rw [List.flatMap_append]; simp [encT_of]
        simp only [newS]
        rw [e1, List.length_append, HM.out]
        exact World.ownsRow.mono hown' (by rw [HQ.out]; exact Nat.le_succ _)
      have HFIN := Lib.hid hfin
      clear hfin hown' hgrow hx9 hat hB2 hall
      go_wp2_with fail
      go_ret
      exact HFIN.out
set_option maxRecDepth 100000 in
set_option maxHeartbeats 2000000 in
theorem rapply_create (h : Ths w X n l) (S : ByteArray) (fi : Nat) (hS : S.size ≤ 1073741824) (hn : n ≤ 1073741824) (hpz : ∀ x ∈ l, x.path.length ≤ 1073741824) :
    Calls Tryz.prog 67 #[.slice X n c, .agg #[.int .i64 2, .string S, .string ⟨#[]⟩, .int .i64 (fi : Int)]] w (ApplyOut w (applyS l (.create S.data.toList fi))) := by
  obtain ⟨STEP, hSTEP⟩ : ∃ s, St.create S.data.toList fi = s := ⟨_, rfl⟩
  obtain ⟨S2, hS2⟩ : ∃ s : ByteArray, (⟨#[]⟩ : ByteArray) = s := ⟨_, rfl⟩
  have HSTEP := Lib.hid hSTEP
  rw [hSTEP, hS2]
  clear hSTEP hS2
  obtain ⟨i0, hi0, hz0, hz1, hz2⟩ := info_parts info_thing
  have hl : l.length = n := Elems.len h
  have HH := Lib.hid h
  have HL := Lib.hid hl
  have HPZ := Lib.hid hpz
  have HIN := Lib.hid (fun (T : ByteArray) (hT : T.size ≤ 1073741824) (w : World) => rinside_calls T S _ rfl w hT hS)
  clear h hl hpz
  go_enter Tryz.func67, Tryz.ntmps67
  go_wp2_with fail
  obtain ⟨q, hqq⟩ : ∃ q, w.heap.size = q := ⟨_, rfl⟩
  have HQ := Lib.hid hqq
  rw [hqq]
  clear hqq
  go_loopg [5, 6] n (fun g s5 s6 wr => ∃ (i : Nat) (v5 : Value), v5 = s5 ∧ i + g = n ∧ s6 = .int .i64 (i : Int) ∧ ThRow wr (q + 1) v5 ((l.take i).flatMap (one STEP)) ∧ Blk wr q 115 #[.int .i64 2, .string S, .string S2, .int .i64 (fi : Int)] ∧ Below q w wr)
  case atStart => exact ⟨0, _, rfl, by omega, rfl, World.ownsRow_nil _ _ _ _, Blk.newAt HQ.out.symm, by rw [← HQ.out]; exact (Below.refl _ _).alloc (Nat.le_refl _) _⟩
  case round =>
    obtain ⟨i, v5, rfl, hig, rfl, hown, hq, hB⟩ := hrel
    have HIG := Lib.hid hig
    clear hig
    by_cases hi : i < n
    · have hil : i < l.length := by have := HL.out; omega
      have el : decide ((i : Int) < (n : Int)) = true := by simp; omega
      have el' : decide (i < n) = true := by simp; omega
      obtain ⟨b, off, rfl, hbl, k0, k1, k2⟩ := HH.out.at_ hi
      have m0 := (hB.cell (p := ⟨b, off + i * 3, none⟩) (by rw [← HQ.out]; exact hbl)).trans k0
      have m1 := (hB.cell (p := ⟨b, off + i * 3 + 1, none⟩) (by rw [← HQ.out]; exact hbl)).trans k1
      have m2 := (hB.cell (p := ⟨b, off + i * 3 + 2, none⟩) (by rw [← HQ.out]; exact hbl)).trans k2
      have hxz := HPZ.out l[i]! (by rw [getElem!_pos l i hil]; exact List.getElem_mem hil)
      have htk := ones_take STEP hil
      obtain ⟨x, hx⟩ : ∃ x, l[i]! = x := ⟨_, rfl⟩
      rw [hx] at m0 m1 m2 hxz htk
      obtain ⟨T, hT⟩ : ∃ T : ByteArray, (⟨x.path.toArray⟩ : ByteArray) = T := ⟨_, rfl⟩
      have hT2 : x.path = T.data.toList := by rw [← hT]
      have hTz : T.size ≤ 1073741824 := by rw [← text_size3, ← hT2]; exact hxz
      have hxe : x = ⟨T.data.toList, x.dir, x.at_⟩ := by rw [← hT2]
      unfold txtV at m0
      rw [hT] at m0
      obtain ⟨D, hD⟩ : ∃ D, x.dir = D := ⟨_, rfl⟩
      obtain ⟨z, hz⟩ : ∃ z, x.at_ = z := ⟨_, rfl⟩
      rw [hD, hz] at hxe
      rw [hD] at m1
      rw [hz] at m2
      have HXE := Lib.hid hxe
      have hlen := ones_len STEP (l.take i)
      rw [List.length_take] at hlen
      obtain ⟨ys, hys⟩ : ∃ ys, (l.take i).flatMap (one STEP) = ys := ⟨_, rfl⟩
      rw [hys] at hown htk hlen
      have HTK := Lib.hid htk
      have hqs := hq.lt
      have hbr : b < wr.heap.size := by have := hB.size; have := HQ.out; omega
      clear k0 k1 k2 hx hT hT2 hD hz hxe hys htk hxz
      go_upto_region 6 with fail
      have hqz : q ≤ wr.heap.size := by omega
      have hB1 : Below q w (wr.alloc (.cells #[.string T, .bool D, .int .i64 (z : Int)] 112)) := hB.alloc hqz _
      have hx1 : Blk (wr.alloc (.cells #[.string T, .bool D, .int .i64 (z : Int)] 112)) wr.heap.size 112 #[.string T, .bool D, .int .i64 (z : Int)] := Blk.new _ _ _
      have hq1 := hq.alloc (.cells #[.string T, .bool D, .int .i64 (z : Int)] 112)
      have hown1 : (wr.alloc (.cells #[.string T, .bool D, .int .i64 (z : Int)] 112)).ownsRow (q + 1) 112 3 v5 ys.length (ys.flatMap encT) := World.ownsRow.alloc hown _
      have hpo : ∀ g, v5.ownBlock = some g → g < wr.heap.size := fun g hg => (World.ownsRow.lt hown g hg).2
      obtain ⟨w1, hw1⟩ : ∃ w1, wr.alloc (.cells #[.string T, .bool D, .int .i64 (z : Int)] 112) = w1 := ⟨_, rfl⟩
      obtain ⟨p, hp⟩ : ∃ p, wr.heap.size = p := ⟨_, rfl⟩
      rw [hw1] at hB1 hx1 hq1 hown1 ⊢
      rw [hp] at hx1 hpo hqs ⊢
      have HPO := Lib.hid hpo
      have HB1 := Lib.hid hB1
      have HX1 := Lib.hid hx1
      have HQ1 := Lib.hid hq1
      have HO1 := Lib.hid hown1
      obtain ⟨m, hm⟩ : ∃ m, ys.length = m := ⟨_, rfl⟩
      have HM := Lib.hid hm
      rw [hm] at hlen
      have xf := hx1.frozen 0
      have x0 : _ = some (Value.string T) := hx1.cell 0
      have x1 : _ = some (Value.bool D) := hx1.cell 1
      have x2 : _ = some (Value.int .i64 (z : Int)) := hx1.cell 2
      have q0 := hq1.cell 0
      have q1 := hq1.cell 1
      have q2 := hq1.cell 2
      simp at q0 q1 q2
      have hpl := hx1.lt
      have hql := hq1.lt
      clear hw1 hp hqz m0 m1 m2 hB hown hq hbr hB1 hx1 hq1 hown1 hpo hm
      go_wp2_with fail
      refine (HIN.out T hTz _).mono ?_
      rintro _ w3 ⟨rfl, rfl⟩
      obtain ⟨ins, hins⟩ : ∃ r, insideB T.data.toList S.data.toList = r := ⟨_, rfl⟩
      have HINS := Lib.hid hins
      rw [hins]
      clear hins
      have hone : one STEP x = [⟨T.data.toList, D, z⟩] := by rw [← HSTEP.out, HXE.out]; rfl
      have HONE := Lib.hid hone
      clear hone
      go_wp2_with (at_builtin; refine wpList_append_own_at _ rfl _ _ 51 rfl (q + 1) 112 i0 (.agg #[.string ⟨#[]⟩, .bool false, .int .i64 0]) 3 32 Tryz.underlying51 hi0 hz0 hz1 hz2 rfl (by decide) _ _ _ rfl (HO1.out.alloc _) ⟨w1.heap.size, 0, none⟩ 1 1 [.string T, .bool D, .int .i64 (z : Int)] rfl rfl ?p1 ?p2 ?p3 ?p4 ?p5 ?_)
      case p1 => exact news_of_blk (l := [.string T, .bool D, .int .i64 (z : Int)]) (Blk.new w1 _ _)
      case p2 => intro u hu; simp at hu; rcases hu with rfl | rfl | rfl <;> rfl
      case p3 => unfold maxLen; have := HM.out; omega
      case p4 => have := HM.out; omega
      case p5 => simp; omega
      intro v' w2 hown' hgrow hx9 hat
      have hall : w1.grownBy w2 v5.ownBlock := (World.grownBy_alloc w1 _ _).trans hgrow
      have hqn : some q ≠ v5.ownBlock := fun e => by have := (World.ownsRow.lt HO1.out q e.symm).1; omega
      have hq2 := HQ1.out.grown hall hqn
      have hB2 : Below q w w2 := by
        have hb1 := HB1.out
        exact hb1.trans ⟨hall.os, hall.tape, hall.output, hall.size, fun k hk => hall.block k (by omega) (fun e => by have := (World.ownsRow.lt HO1.out k e.symm).1; omega)⟩
      have hown2 : ThRow w2 (q + 1) v' ((l.take (i + 1)).flatMap (one STEP)) := by
        have e1 : (ys ++ [(⟨T.data.toList, D, z⟩ : Th)]).flatMap encT = ys.flatMap encT ++ [.string T, .bool D, .int .i64 (z : Int)] := by rw [List.flatMap_append]; simp [encT_of]
        unfold ThRow
        rw [HTK.out, HONE.out, e1, List.length_append]
        exact hown'
      clear hown' hgrow hx9 hat x0 x1 x2 q0 q1 q2
      go_wp2_with fail
      go_roundg (gk - 1)
      case measure => have := HIG.out; omega
      case rel => exact ⟨i + 1, _, rfl, by have := HIG.out; omega, by go_num, hown2, hq2, hB2⟩
    · have el : decide ((i : Int) < (n : Int)) = false := by simp; omega
      have el' : decide (i < n) = false := by simp; omega
      have htk : l.take i = l := List.take_of_length_le (by have := HL.out; omega)
      rw [htk] at hown
      have hqc := hq.cell 0
      have hqd := hq.cell 1
      have hqe := hq.cell 3
      simp at hqc hqd hqe
      have hql := hq.lt
      clear htk
      have hlen := ones_len STEP l
      obtain ⟨ys, hys⟩ : ∃ ys, l.flatMap (one STEP) = ys := ⟨_, rfl⟩
      rw [hys] at hown hlen
      have HYS := Lib.hid hys
      have HO := Lib.hid hown
      have HB := Lib.hid hB
      have hown1 : wr.ownsRow (q + 1) 112 3 v5 ys.length (ys.flatMap encT) := hown
      have hsz : q + 1 ≤ wr.heap.size := hql
      have hln : ys.length ≤ 1073741824 := by have := HL.out; omega
      obtain ⟨m, hm⟩ : ∃ m, ys.length = m := ⟨_, rfl⟩
      have HM := Lib.hid hm
      rw [hm] at hown1 hln
      have HO1 := Lib.hid hown1
      clear hys hown hB hq hown1 hm
      go_wp2_with (at_builtin; refine wpList_append_own_at _ rfl _ _ 51 rfl (q + 1) 112 i0 (.agg #[.string ⟨#[]⟩, .bool false, .int .i64 0]) 3 32 Tryz.underlying51 hi0 hz0 hz1 hz2 rfl (by decide) _ _ _ rfl (HO1.out.alloc _) ⟨wr.heap.size, 0, none⟩ 1 1 [.string S, .bool false, .int .i64 (fi : Int)] rfl rfl ?p1 ?p2 ?p3 ?p4 ?p5 ?_)
      case p1 => exact news_of_blk (l := [.string S, .bool false, .int .i64 (fi : Int)]) (Blk.new wr _ _)
      case p2 => intro u hu; simp at hu; rcases hu with rfl | rfl | rfl <;> rfl
      case p3 => unfold maxLen; omega
      case p4 => omega
      case p5 => simp; omega
      intro v' w2 hown' hgrow hx9 hat
      have hall : wr.grownBy w2 v5.ownBlock := (World.grownBy_alloc wr _ _).trans hgrow
      have hB2 : Below q w w2 := by
        have hb1 := HB.out
        exact hb1.trans ⟨hall.os, hall.tape, hall.output, hall.size, fun k hk => hall.block k (by omega) (fun e => by have := (World.ownsRow.lt HO1.out k e.symm).1; omega)⟩
      have hfin : ApplyOut w (applyS l STEP) (.returned v') w2 := by
        rw [applyS_one, HYS.out, ← HSTEP.out]
        refine ⟨v', rfl, ?_, by rw [HQ.out]; exact hB2⟩
        have e1 : (ys ++ [(⟨S.data.toList, false, fi⟩ : Th)]).flatMap encT = ys.flatMap encT ++ [.string S, .bool false, .int .i64 (fi : Int)] := by rw [List.flatMap_append]; simp [encT_of]
        simp only [newS]
        rw [e1, List.length_append, HM.out]
        exact World.ownsRow.mono hown' (by rw [HQ.out]; exact Nat.le_succ _)
      have HFIN := Lib.hid hfin
      clear hfin hown' hgrow hx9 hat hB2 hall
      go_wp2_with fail
      go_ret
      exact HFIN.out
set_option maxRecDepth 100000 in
set_option maxHeartbeats 4000000 in
theorem rapply_rename (h : Ths w X n l) (S S2 : ByteArray) (hS : S.size ≤ 1073741824) (hS2 : S2.size ≤ 1073741824) (hn : n ≤ 1073741824) (hpz : ∀ x ∈ l, x.path.length ≤ 1073741824) :
    Calls Tryz.prog 67 #[.slice X n c, .agg #[.int .i64 3, .string S, .string S2, .int .i64 0]] w (ApplyOut w (applyS l (.rename S.data.toList S2.data.toList))) := by
  obtain ⟨STEP, hSTEP⟩ : ∃ s, St.rename S.data.toList S2.data.toList = s := ⟨_, rfl⟩
  have HSTEP := Lib.hid hSTEP
  rw [hSTEP]
  clear hSTEP
  obtain ⟨i0, hi0, hz0, hz1, hz2⟩ := info_parts info_thing
  have hl : l.length = n := Elems.len h
  have HH := Lib.hid h
  have HL := Lib.hid hl
  have HPZ := Lib.hid hpz
  have HIN := Lib.hid (fun (T : ByteArray) (hT : T.size ≤ 1073741824) (w : World) => rinside_calls T S _ rfl w hT hS)
  clear h hl hpz
  go_enter Tryz.func67, Tryz.ntmps67
  go_wp2_with fail
  obtain ⟨q, hqq⟩ : ∃ q, w.heap.size = q := ⟨_, rfl⟩
  have HQ := Lib.hid hqq
  rw [hqq]
  clear hqq
  go_loopg [5, 6] n (fun g s5 s6 wr => ∃ (i : Nat) (v5 : Value), v5 = s5 ∧ i + g = n ∧ s6 = .int .i64 (i : Int) ∧ ThRow wr (q + 1) v5 ((l.take i).flatMap (one STEP)) ∧ Blk wr q 115 #[.int .i64 3, .string S, .string S2, .int .i64 0] ∧ Below q w wr)
  case atStart => exact ⟨0, _, rfl, by omega, rfl, World.ownsRow_nil _ _ _ _, Blk.newAt HQ.out.symm, by rw [← HQ.out]; exact (Below.refl _ _).alloc (Nat.le_refl _) _⟩
  case round =>
    obtain ⟨i, v5, rfl, hig, rfl, hown, hq, hB⟩ := hrel
    have HIG := Lib.hid hig
    clear hig
    by_cases hi : i < n
    · have hil : i < l.length := by have := HL.out; omega
      have el : decide ((i : Int) < (n : Int)) = true := by simp; omega
      have el' : decide (i < n) = true := by simp; omega
      obtain ⟨b, off, rfl, hbl, k0, k1, k2⟩ := HH.out.at_ hi
      have m0 := (hB.cell (p := ⟨b, off + i * 3, none⟩) (by rw [← HQ.out]; exact hbl)).trans k0
      have m1 := (hB.cell (p := ⟨b, off + i * 3 + 1, none⟩) (by rw [← HQ.out]; exact hbl)).trans k1
      have m2 := (hB.cell (p := ⟨b, off + i * 3 + 2, none⟩) (by rw [← HQ.out]; exact hbl)).trans k2
      have hxz := HPZ.out l[i]! (by rw [getElem!_pos l i hil]; exact List.getElem_mem hil)
      have htk := ones_take STEP hil
      obtain ⟨x, hx⟩ : ∃ x, l[i]! = x := ⟨_, rfl⟩
      rw [hx] at m0 m1 m2 hxz htk
      obtain ⟨T, hT⟩ : ∃ T : ByteArray, (⟨x.path.toArray⟩ : ByteArray) = T := ⟨_, rfl⟩
      have hT2 : x.path = T.data.toList := by rw [← hT]
      have hTz : T.size ≤ 1073741824 := by rw [← text_size3, ← hT2]; exact hxz
      have hxe : x = ⟨T.data.toList, x.dir, x.at_⟩ := by rw [← hT2]
      unfold txtV at m0
      rw [hT] at m0
      obtain ⟨D, hD⟩ : ∃ D, x.dir = D := ⟨_, rfl⟩
      obtain ⟨z, hz⟩ : ∃ z, x.at_ = z := ⟨_, rfl⟩
      rw [hD, hz] at hxe
      rw [hD] at m1
      rw [hz] at m2
      have HXE := Lib.hid hxe
      have hlen := ones_len STEP (l.take i)
      rw [List.length_take] at hlen
      obtain ⟨ys, hys⟩ : ∃ ys, (l.take i).flatMap (one STEP) = ys := ⟨_, rfl⟩
      rw [hys] at hown htk hlen
      have HTK := Lib.hid htk
      have hqs := hq.lt
      have hbr : b < wr.heap.size := by have := hB.size; have := HQ.out; omega
      clear k0 k1 k2 hx hT hT2 hD hz hxe hys htk hxz
      go_upto_region 6 with fail
      have hqz : q ≤ wr.heap.size := by omega
      have hB1 : Below q w (wr.alloc (.cells #[.string T, .bool D, .int .i64 (z : Int)] 112)) := hB.alloc hqz _
      have hx1 : Blk (wr.alloc (.cells #[.string T, .bool D, .int .i64 (z : Int)] 112)) wr.heap.size 112 #[.string T, .bool D, .int .i64 (z : Int)] := Blk.new _ _ _
      have hq1 := hq.alloc (.cells #[.string T, .bool D, .int .i64 (z : Int)] 112)
      have hown1 : (wr.alloc (.cells #[.string T, .bool D, .int .i64 (z : Int)] 112)).ownsRow (q + 1) 112 3 v5 ys.length (ys.flatMap encT) := World.ownsRow.alloc hown _
      have hpo : ∀ g, v5.ownBlock = some g → g < wr.heap.size := fun g hg => (World.ownsRow.lt hown g hg).2
      obtain ⟨w1, hw1⟩ : ∃ w1, wr.alloc (.cells #[.string T, .bool D, .int .i64 (z : Int)] 112) = w1 := ⟨_, rfl⟩
      obtain ⟨p, hp⟩ : ∃ p, wr.heap.size = p := ⟨_, rfl⟩
      rw [hw1] at hB1 hx1 hq1 hown1 ⊢
      rw [hp] at hx1 hpo hqs ⊢
      have HPO := Lib.hid hpo
      have HB1 := Lib.hid hB1
      have HX1 := Lib.hid hx1
      have HQ1 := Lib.hid hq1
      have HO1 := Lib.hid hown1
      obtain ⟨m, hm⟩ : ∃ m, ys.length = m := ⟨_, rfl⟩
      have HM := Lib.hid hm
      rw [hm] at hlen
      have xf := hx1.frozen 0
      have x0 : _ = some (Value.string T) := hx1.cell 0
      have x1 : _ = some (Value.bool D) := hx1.cell 1
      have x2 : _ = some (Value.int .i64 (z : Int)) := hx1.cell 2
      have q0 := hq1.cell 0
      have q1 := hq1.cell 1
      have q2 := hq1.cell 2
      simp at q0 q1 q2
      have hpl := hx1.lt
      have hql := hq1.lt
      clear hw1 hp hqz m0 m1 m2 hB hown hq hbr hB1 hx1 hq1 hown1 hpo hm
      go_wp2_with fail
      refine (HIN.out T hTz _).mono ?_
      rintro _ w3 ⟨rfl, rfl⟩
      obtain ⟨ins, hins⟩ : ∃ r, insideB T.data.toList S.data.toList = r := ⟨_, rfl⟩
      have HINS := Lib.hid hins
      rw [hins]
      clear hins
      have hone : one STEP x = if (T.data.toList == S2.data.toList) = true then [] else [mv S.data.toList S2.data.toList ⟨T.data.toList, D, z⟩] := by
        rw [← HSTEP.out, HXE.out]; rfl
      by_cases he2 : T = S2
      · subst he2
        have hone2 : one STEP x = [] := by rw [hone]; simp
        have HONE := Lib.hid hone2
        clear hone hone2
        have hown2 : ThRow w1 (q + 1) v5 ((l.take (i + 1)).flatMap (one STEP)) := by
          unfold ThRow
          rw [HTK.out, HONE.out, List.append_nil]
          exact HO1.out
        have hq2 := HQ1.out
        go_wp2_with fail
        go_roundg (gk - 1)
        case measure => have := HIG.out; omega
        case rel => exact ⟨i + 1, _, rfl, by have := HIG.out; omega, by go_num, hown2, hq2, HB1.out⟩
      · obtain ⟨r1, r2, r3, r4⟩ := ne_facts he2
        have hne2 : (T.data.toList == S2.data.toList) = false := by rw [beq_eq_false_iff_ne]; exact fun e => he2 (bytes_eq e)
        rw [hne2, if_neg (by decide)] at hone
        clear hne2 he2
        unfold mv at hone
        simp only [] at hone
        by_cases he : T = S
        · subst he
          rw [if_pos (by simp)] at hone
          have HONE := Lib.hid hone
          clear hone
          go_upto_region 16 with fail
          obtain ⟨w1, hw5⟩ : ∃ W, w1.setCell ⟨p, 0, none⟩ (.string S2) = W := ⟨_, rfl⟩
          rw [hw5]
          have hx2 : Blk w1 p 112 #[.string S2, .bool D, .int .i64 (z : Int)] := by rw [← hw5]; exact HX1.out.set_ 0 _
          have hq2 := HQ1.out.far (p := ⟨p, 0, none⟩) (by show q ≠ p; omega) (.string S2)
          first
            | rw [hw5] at hq2
            | (replace hq2 := hq2.drew; rw [hw5] at hq2)
          have hO2 : w1.ownsRow (q + 1) 112 3 v5 ys.length (ys.flatMap encT) := by rw [← hw5]; exact ownsRow_setCell_other HO1.out (a := ⟨p, 0, none⟩) (fun e => by have := HPO.out p e; omega) (.string S2)
          have hB2 : Below q w w1 := by
            rw [← hw5]
            first
              | exact HB1.out.setCell (by show q ≤ p; omega) _
              | exact (HB1.out.setCell (by show q ≤ p; omega) _).drew
          clear hw5 xf x0 x1 x2 q0 q1 q2 hpl hql HX1 HQ1 HO1 HB1
          have HB1 := Lib.hid hB2
          have HX1 := Lib.hid hx2
          have HQ1 := Lib.hid hq2
          have HO1 := Lib.hid hO2
          have x0 : _ = some (Value.string S2) := hx2.cell 0
          have x1 : _ = some (Value.bool D) := hx2.cell 1
          have x2 : _ = some (Value.int .i64 (z : Int)) := hx2.cell 2
          have q0 := hq2.cell 0
          have q1 := hq2.cell 1
          have q2 := hq2.cell 2
          simp at q0 q1 q2
          have hpl := hx2.lt
          have hql := hq2.lt
          clear hx2 hq2 hO2 hB2
          go_wp2_with (at_builtin; refine wpList_append_own_at _ rfl _ _ 51 rfl (q + 1) 112 i0 (.agg #[.string ⟨#[]⟩, .bool false, .int .i64 0]) 3 32 Tryz.underlying51 hi0 hz0 hz1 hz2 rfl (by decide) _ _ _ rfl (HO1.out.alloc _) ⟨w1.heap.size, 0, none⟩ 1 1 [.string S2, .bool D, .int .i64 (z : Int)] rfl rfl ?p1 ?p2 ?p3 ?p4 ?p5 ?_)
          case p1 => exact news_of_blk (l := [.string S2, .bool D, .int .i64 (z : Int)]) (Blk.new w1 _ _)
          case p2 => intro u hu; simp at hu; rcases hu with rfl | rfl | rfl <;> rfl
          case p3 => unfold maxLen; have := HM.out; omega
          case p4 => have := HM.out; omega
          case p5 => simp; omega
          intro v' w2 hown' hgrow hx9 hat
          have hall : w1.grownBy w2 v5.ownBlock := (World.grownBy_alloc w1 _ _).trans hgrow
          have hqn : some q ≠ v5.ownBlock := fun e => by have := (World.ownsRow.lt HO1.out q e.symm).1; omega
          have hq2 := HQ1.out.grown hall hqn
          have hB2 : Below q w w2 := by
            have hb1 := HB1.out
            exact hb1.trans ⟨hall.os, hall.tape, hall.output, hall.size, fun k hk => hall.block k (by omega) (fun e => by have := (World.ownsRow.lt HO1.out k e.symm).1; omega)⟩
          have hown2 : ThRow w2 (q + 1) v' ((l.take (i + 1)).flatMap (one STEP)) := by
            have e1 : (ys ++ [(⟨S2.data.toList, D, z⟩ : Th)]).flatMap encT = ys.flatMap encT ++ [.string S2, .bool D, .int .i64 (z : Int)] := by rw [List.flatMap_append]; simp [encT_of]
            unfold ThRow
            rw [HTK.out, HONE.out, e1, List.length_append]
            exact hown'
          clear hown' hgrow hx9 hat x0 x1 x2 q0 q1 q2
          go_wp2_with fail
          go_roundg (gk - 1)
          case measure => have := HIG.out; omega
          case rel => exact ⟨i + 1, _, rfl, by have := HIG.out; omega, by go_num, hown2, hq2, hB2⟩
        · obtain ⟨e1, e2, e3, e4⟩ := ne_facts he
          have hne : (T.data.toList == S.data.toList) = false := by rw [beq_eq_false_iff_ne]; exact fun e => he (bytes_eq e)
          rw [hne, if_neg (by decide), HINS.out] at hone
          clear he hne
          cases ins with
          | false =>
            rw [if_neg (by decide)] at hone
            have HONE := Lib.hid hone
            clear hone
            go_wp2_with (at_builtin; refine wpList_append_own_at _ rfl _ _ 51 rfl (q + 1) 112 i0 (.agg #[.string ⟨#[]⟩, .bool false, .int .i64 0]) 3 32 Tryz.underlying51 hi0 hz0 hz1 hz2 rfl (by decide) _ _ _ rfl (HO1.out.alloc _) ⟨w1.heap.size, 0, none⟩ 1 1 [.string T, .bool D, .int .i64 (z : Int)] rfl rfl ?p1 ?p2 ?p3 ?p4 ?p5 ?_)
            case p1 => exact news_of_blk (l := [.string T, .bool D, .int .i64 (z : Int)]) (Blk.new w1 _ _)
            case p2 => intro u hu; simp at hu; rcases hu with rfl | rfl | rfl <;> rfl
            case p3 => unfold maxLen; have := HM.out; omega
            case p4 => have := HM.out; omega
            case p5 => simp; omega
            intro v' w2 hown' hgrow hx9 hat
            have hall : w1.grownBy w2 v5.ownBlock := (World.grownBy_alloc w1 _ _).trans hgrow
            have hqn : some q ≠ v5.ownBlock := fun e => by have := (World.ownsRow.lt HO1.out q e.symm).1; omega
            have hq2 := HQ1.out.grown hall hqn
            have hB2 : Below q w w2 := by
              have hb1 := HB1.out
              exact hb1.trans ⟨hall.os, hall.tape, hall.output, hall.size, fun k hk => hall.block k (by omega) (fun e => by have := (World.ownsRow.lt HO1.out k e.symm).1; omega)⟩
            have hown2 : ThRow w2 (q + 1) v' ((l.take (i + 1)).flatMap (one STEP)) := by
              have e1 : (ys ++ [(⟨T.data.toList, D, z⟩ : Th)]).flatMap encT = ys.flatMap encT ++ [.string T, .bool D, .int .i64 (z : Int)] := by rw [List.flatMap_append]; simp [encT_of]
              unfold ThRow
              rw [HTK.out, HONE.out, e1, List.length_append]
              exact hown'
            clear hown' hgrow hx9 hat x0 x1 x2 q0 q1 q2
            go_wp2_with fail
            go_roundg (gk - 1)
            case measure => have := HIG.out; omega
            case rel => exact ⟨i + 1, _, rfl, by have := HIG.out; omega, by go_num, hown2, hq2, hB2⟩
          | true =>
            rw [if_pos rfl] at hone
            have hST : S.size ≤ T.size := by
              obtain ⟨r, hr⟩ := inside_iff.1 HINS.out
              have := congrArg List.length hr
              simp only [List.length_append, text_size3] at this
              omega
            obtain ⟨V, hV⟩ : ∃ V, S2 ++ T.extract S.size T.size = V := ⟨_, rfl⟩
            have hone2 : one STEP x = [⟨V.data.toList, D, z⟩] := by
              rw [hone, ← hV]
              have : (S2 ++ T.extract S.size T.size).data.toList = S2.data.toList ++ T.data.toList.drop S.data.toList.length := by rw [← drop_bytes]; simp
              rw [this]
            have HONE := Lib.hid hone2
            have HVV := Lib.hid hV
            clear hone hone2 hV
            go_upto_region 15 with fail
            go_region
            rw [HVV.out]
            go_upto_region 16 with fail
            obtain ⟨w1, hw5⟩ : ∃ W, (w1.setCell ⟨p, 0, none⟩ (.string V)).drew = W := ⟨_, rfl⟩
            rw [hw5]
            have hx2 : Blk w1 p 112 #[.string V, .bool D, .int .i64 (z : Int)] := by rw [← hw5]; exact HX1.out.set_ 0 _
            have hq2 := HQ1.out.far (p := ⟨p, 0, none⟩) (by show q ≠ p; omega) (.string V)
            first
              | rw [hw5] at hq2
              | (replace hq2 := hq2.drew; rw [hw5] at hq2)
            have hO2 : w1.ownsRow (q + 1) 112 3 v5 ys.length (ys.flatMap encT) := by rw [← hw5]; exact ownsRow_setCell_other HO1.out (a := ⟨p, 0, none⟩) (fun e => by have := HPO.out p e; omega) (.string V)
            have hB2 : Below q w w1 := by
              rw [← hw5]
              first
                | exact HB1.out.setCell (by show q ≤ p; omega) _
                | exact (HB1.out.setCell (by show q ≤ p; omega) _).drew
            clear hw5 xf x0 x1 x2 q0 q1 q2 hpl hql HX1 HQ1 HO1 HB1
            have HB1 := Lib.hid hB2
            have HX1 := Lib.hid hx2
            have HQ1 := Lib.hid hq2
            have HO1 := Lib.hid hO2
            have x0 : _ = some (Value.string V) := hx2.cell 0
            have x1 : _ = some (Value.bool D) := hx2.cell 1
            have x2 : _ = some (Value.int .i64 (z : Int)) := hx2.cell 2
            have q0 := hq2.cell 0
            have q1 := hq2.cell 1
            have q2 := hq2.cell 2
            simp at q0 q1 q2
            have hpl := hx2.lt
            have hql := hq2.lt
            clear hx2 hq2 hO2 hB2
            go_wp2_with (at_builtin; refine wpList_append_own_at _ rfl _ _ 51 rfl (q + 1) 112 i0 (.agg #[.string ⟨#[]⟩, .bool false, .int .i64 0]) 3 32 Tryz.underlying51 hi0 hz0 hz1 hz2 rfl (by decide) _ _ _ rfl (HO1.out.alloc _) ⟨w1.heap.size, 0, none⟩ 1 1 [.string V, .bool D, .int .i64 (z : Int)] rfl rfl ?p1 ?p2 ?p3 ?p4 ?p5 ?_)
            case p1 => exact news_of_blk (l := [.string V, .bool D, .int .i64 (z : Int)]) (Blk.new w1 _ _)
            case p2 => intro u hu; simp at hu; rcases hu with rfl | rfl | rfl <;> rfl
            case p3 => unfold maxLen; have := HM.out; omega
            case p4 => have := HM.out; omega
            case p5 => simp; omega
            intro v' w2 hown' hgrow hx9 hat
            have hall : w1.grownBy w2 v5.ownBlock := (World.grownBy_alloc w1 _ _).trans hgrow
            have hqn : some q ≠ v5.ownBlock := fun e => by have := (World.ownsRow.lt HO1.out q e.symm).1; omega
            have hq2 := HQ1.out.grown hall hqn
            have hB2 : Below q w w2 := by
              have hb1 := HB1.out
              exact hb1.trans ⟨hall.os, hall.tape, hall.output, hall.size, fun k hk => hall.block k (by omega) (fun e => by have := (World.ownsRow.lt HO1.out k e.symm).1; omega)⟩
            have hown2 : ThRow w2 (q + 1) v' ((l.take (i + 1)).flatMap (one STEP)) := by
              have e1 : (ys ++ [(⟨V.data.toList, D, z⟩ : Th)]).flatMap encT = ys.flatMap encT ++ [.string V, .bool D, .int .i64 (z : Int)] := by rw [List.flatMap_append]; simp [encT_of]
              unfold ThRow
              rw [HTK.out, HONE.out, e1, List.length_append]
              exact hown'
            clear hown' hgrow hx9 hat x0 x1 x2 q0 q1 q2
            go_wp2_with fail
            go_roundg (gk - 1)
            case measure => have := HIG.out; omega
            case rel => exact ⟨i + 1, _, rfl, by have := HIG.out; omega, by go_num, hown2, hq2, hB2⟩
    · have el : decide ((i : Int) < (n : Int)) = false := by simp; omega
      have el' : decide (i < n) = false := by simp; omega
      have htk : l.take i = l := List.take_of_length_le (by have := HL.out; omega)
      rw [htk] at hown
      have hqc := hq.cell 0
      have hqd := hq.cell 1
      have hqe := hq.cell 3
      simp at hqc hqd hqe
      have hql := hq.lt
      clear htk
      have hfin : ApplyOut w (applyS l STEP) (.returned v5) wr := by
        rw [applyS_one, ← HSTEP.out]
        rw [← HSTEP.out] at hown
        simp only [newS, List.append_nil]
        exact ⟨v5, rfl, World.ownsRow.mono hown (by rw [HQ.out]; exact Nat.le_succ _), by rw [HQ.out]; exact hB⟩
      have HFIN := Lib.hid hfin
      clear hfin hown hq hB
      go_wp2_with fail
      go_ret
      exact HFIN.out
end
end Go.Proofs.YtdaidbnbfjgjeaaGreatDoor
