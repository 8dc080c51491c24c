/- Merged (what the claim wants of): DskWalksF, DskWalksG, DskWalksH. -/
import Derived.Test.YtfpgbhimgfdddaaGreatDoorStk07
set_option linter.unusedVariables false
set_option linter.unusedSimpArgs false
/- The walks of layer 3 (disk): the steps that a closure holds. -/
namespace Go.Proofs.YtfpgbhimgfdddaaGreatDoor
open Go.RowKit Go.Shelf Go.Maps Go.Sort
attribute [local go_sem ↓] Go.wp_at_zero Go.wp_at_succ
attribute [local go_sem] Later.cell Later.frozen

/-- The two maps alone are owned. -/
def two (x y k : Nat) : Nat := if k = x ∨ k = y then 1 else 0
theorem two_l (x y : Nat) : two x y x ≠ 0 := by simp [two]
theorem two_r (x y : Nat) : two x y y ≠ 0 := by simp [two]
/-- A step was taken: what the two maps hold now. -/
def DoOut (md mf : Nat) (f g : Txt → Option Value) (w : World) (e : Ending) (w' : World) : Prop :=
  e = .returned (.tuple #[]) ∧ SM w' md f ∧ SM w' mf g ∧ Own (two md mf) (two md mf) w w'
theorem cell_own {R R' : Nat → Nat} {w w' : World} (h : Own R R' w w') {b i : Nat} {v : Value} (hc : w.cell? ⟨b, i, none⟩ = some v) (hb : R b = 0) : w'.cell? ⟨b, i, none⟩ = some v :=
  (World.cell?_of_block (h.block b (lt_of_cell hc) hb)).trans hc
theorem two_ne {x y k : Nat} (h1 : k ≠ x) (h2 : k ≠ y) : two x y k = 0 := by simp [two, h1, h2]

section
variable {md mf : Nat} {f g : Txt → Option Value}
set_option maxHeartbeats 1000000 in
theorem mkdir1_calls (b : Nat) (S : ByteArray) (w : World) (hd : SM w md f) (hf : SM w mf g) (hne : md ≠ mf) (hb : w.cell? ⟨b, 0, none⟩ = some (.string S)) (hS : S.size ≤ maxLen) (L : List Txt) (hL : ∀ x, (f x).isSome = true → x ∈ L) (hn : L.length < maxLen) :
    Calls Tryz.prog 124 #[.agg #[.map (some md), .map (some mf)], .pointer (some ⟨b, 0, none⟩)] w (DoOut md mf (upd f S.data.toList (some (.int .i64 1))) g w) := by
  have hbl := lt_of_cell hb
  have HL := Lib.hid hL
  clear hL
  go_enter Tryz.func124, Tryz.ntmps124
  go_upto_region 1 with fail
  obtain ⟨w1, hw1⟩ : ∃ x, w.alloc (.cells #[.map (some md), .map (some mf)] 122) = x := ⟨_, rfl⟩
  have hb1 : Below w.heap.size w w1 := by rw [← hw1]; exact (Below.refl _ _).alloc (Nat.le_refl _) _
  have hq : Blk w1 w.heap.size 122 #[.map (some md), .map (some mf)] := by rw [← hw1]; exact Blk.new _ _ _
  rw [hw1]
  obtain ⟨q, hqq⟩ : ∃ q, w.heap.size = q := ⟨_, rfl⟩
  rw [hqq] at hq ⊢
  have q0 : _ = some (Value.map (some md)) := hq.cell 0
  have c1 := later hb1 hb
  have hd1 := hd.below hb1 hd.lt
  have hf1 := hf.below hb1 hf.lt
  clear hw1 hqq hb hd hf
  go_wp2_with (at_mapUpdate; refine wpList_put _ rfl _ _ _ rfl Tryz.underlying9 Tryz.underlying119 rfl hd1 rfl hS _ rfl L HL.out hn ?_)
  intro w2 hd2 hg2 _
  have hf2 := hf1.grown hg2 (by simpa using Ne.symm hne)
  have hO : Own (two md mf) (two md mf) w w2 := (Own.of_below hb1).trans (Own.of_grown hg2 (two_l _ _))
  go_wp2_with fail
  go_end0
  exact ⟨rfl, hd2, hf2, hO⟩

set_option maxHeartbeats 1000000 in
theorem create1_calls (b c : Nat) (S : ByteArray) (P : Option Addr) (w : World) (hd : SM w md f) (hf : SM w mf g) (hne : md ≠ mf) (hb : w.cell? ⟨b, 0, none⟩ = some (.string S)) (hc : w.cell? ⟨c, 0, none⟩ = some (.pointer P)) (hS : S.size ≤ maxLen) (L : List Txt) (hL : ∀ x, (g x).isSome = true → x ∈ L) (hn : L.length < maxLen) :
    Calls Tryz.prog 66 #[.agg #[.map (some md), .map (some mf)], .pointer (some ⟨c, 0, none⟩), .pointer (some ⟨b, 0, none⟩)] w (DoOut md mf f (upd g S.data.toList (some (.pointer P))) w) := by
  have hbl := lt_of_cell hb
  have hcl := lt_of_cell hc
  have HL := Lib.hid hL
  clear hL
  go_enter Tryz.func66, Tryz.ntmps66
  go_upto_region 1 with fail
  obtain ⟨w1, hw1⟩ : ∃ x, w.alloc (.cells #[.map (some md), .map (some mf)] 122) = x := ⟨_, rfl⟩
  have hb1 : Below w.heap.size w w1 := by rw [← hw1]; exact (Below.refl _ _).alloc (Nat.le_refl _) _
  have hq : Blk w1 w.heap.size 122 #[.map (some md), .map (some mf)] := by rw [← hw1]; exact Blk.new _ _ _
  rw [hw1]
  obtain ⟨q, hqq⟩ : ∃ q, w.heap.size = q := ⟨_, rfl⟩
  rw [hqq] at hq ⊢
  have q1 : _ = some (Value.map (some mf)) := hq.cell 1
  have c1 := later hb1 hb
  have c2 := later hb1 hc
  have hd1 := hd.below hb1 hd.lt
  have hf1 := hf.below hb1 hf.lt
  clear hw1 hqq hb hd hf hc
  go_wp2_with (at_mapUpdate; refine wpList_put _ rfl _ _ _ rfl Tryz.underlying9 Tryz.underlying120 rfl hf1 rfl hS _ rfl L HL.out hn ?_)
  intro w2 hf2 hg2 _
  have hd2 := hd1.grown hg2 (by simpa using hne)
  have hO : Own (two md mf) (two md mf) w w2 := (Own.of_below hb1).trans (Own.of_grown hg2 (two_r _ _))
  go_wp2_with fail
  go_end0
  exact ⟨rfl, hd2, hf2, hO⟩

theorem cat_bytes (a : ByteArray) (s : Txt) : (a ++ (⟨#[47]⟩ : ByteArray) ++ (⟨s.toArray⟩ : ByteArray)).data.toList = a.data.toList ++ [47] ++ s := by simp
theorem cat_size (a : ByteArray) (s : Txt) : (a ++ (⟨#[47]⟩ : ByteArray) ++ (⟨s.toArray⟩ : ByteArray)).size = a.size + 1 + s.length := by
  rw [← text_size3, cat_bytes]
  simp
  omega
theorem rmF_take {f : Txt → Option Value} {a : Txt} {bs : List Txt} {i : Nat} (h : i < bs.length) : rmF f a (bs.take (i + 1)) = upd (rmF f a (bs.take i)) (a ++ [47] ++ bs[i]!) none := by
  unfold rmF
  rw [List.take_succ_eq_append_getElem h, getElem!_pos bs i h, List.foldl_append]
  rfl

set_option maxRecDepth 100000 in
set_option maxHeartbeats 2000000 in
theorem remove1_calls (b : Nat) (S : ByteArray) (w : World) (hd : SM w md f) (hf : SM w mf g) (hne : md ≠ mf) (hb : w.cell? ⟨b, 0, none⟩ = some (.string S)) (hbd : b ≠ md) (hbf : b ≠ mf) (hS : S.size ≤ 1073741824) (L : List Txt) (hL : ∀ x, (g x).isSome = true → x ∈ L) (hn : L.length ≤ 1073741824) (hz : ∀ x ∈ L, x.length ≤ 1073741824) :
    Calls Tryz.prog 115 #[.agg #[.map (some md), .map (some mf)], .pointer (some ⟨b, 0, none⟩)] w fun e w' => ∃ bs : List Txt, bs.Nodup ∧ (∀ x, x ∈ bs ↔ (g (S.data.toList ++ [47] ++ x)).isSome = true) ∧ DoOut md mf (upd f S.data.toList none) (upd (rmF g S.data.toList bs) S.data.toList none) w e w' := by
  have hbl := lt_of_cell hb
  have HL := Lib.hid hL
  have HZ := Lib.hid hz
  clear hL hz
  go_enter Tryz.func115, Tryz.ntmps115
  go_upto_region 1 with fail
  obtain ⟨w1, hw1⟩ : ∃ x, w.alloc (.cells #[.map (some md), .map (some mf)] 122) = x := ⟨_, rfl⟩
  have hb1 : Below w.heap.size w w1 := by rw [← hw1]; exact (Below.refl _ _).alloc (Nat.le_refl _) _
  have hq : Blk w1 w.heap.size 122 #[.map (some md), .map (some mf)] := by rw [← hw1]; exact Blk.new _ _ _
  rw [hw1]
  obtain ⟨q, hqq⟩ : ∃ q, w.heap.size = q := ⟨_, rfl⟩
  have hqd : q ≠ md := by have := hd.lt; omega
  have hqf : q ≠ mf := by have := hf.lt; omega
  rw [hqq] at hq ⊢
  have q0 : _ = some (Value.map (some md)) := hq.cell 0
  have q1 : _ = some (Value.map (some mf)) := hq.cell 1
  have c1 := later hb1 hb
  have hd1 := hd.below hb1 hd.lt
  have hf1 := hf.below hb1 hf.lt
  clear hw1 hb hd hf
  go_wp2_with fail
  refine (within_calls (some md) (some mf) mf rfl g S w1 hf1 L HL.out hn hS HZ.out).mono ?_
  rintro e w2 ⟨A, c, bs, rfl, hs, hc, hasc, hbs, hb2⟩
  have hnd : bs.Nodup := List.Pairwise.imp (fun {a b} h => by intro e; subst e; exact List.lt_irrefl _ h) hasc
  have hbl2 : ∀ x ∈ bs, x.length ≤ 1073741824 := by
    intro x hx
    have h1 := HZ.out _ (HL.out _ ((hbs x).1 hx))
    simp at h1
    omega
  have HBS := Lib.hid hbs
  have HND := Lib.hid hnd
  have HBL := Lib.hid hbl2
  have hB2 := then_ hb1 hb2
  have hd2 := hd1.below hb2 hd1.lt
  have hf2 := hf1.below hb2 hf1.lt
  have hq2 := hq.below hb2 hq.lt
  have c2 := later hb2 c1
  obtain ⟨m, hm⟩ : ∃ m, bs.length = m := ⟨_, rfl⟩
  have HM := Lib.hid hm
  rw [hm] at hs hc ⊢
  have hml : m ≤ 1073741824 := by rw [← hm]; exact Nat.le_trans (out_len hnd fun x hx => HL.out _ ((hbs x).1 hx)) hn
  clear hbs hnd hbl2 hb1 hb2 hd1 hf1 hq q0 q1 c1 hm hqq hasc
  go_upto_block 0 with fail
  go_cut [] (fun wz => SM wz md f ∧ SM wz mf (rmF g S.data.toList bs) ∧ Own (two md mf) (two md mf) w2 wz)
  case first =>
    go_wp2_with fail
    go_loopg [9] m (fun k s9 wr => ∃ i : Nat, i + k = m ∧ s9 = .int .i64 (i : Int) ∧ SM wr md f ∧ SM wr mf (rmF g S.data.toList (bs.take i)) ∧ Own (two md mf) (two md mf) w2 wr)
    case atStart => exact ⟨0, by omega, rfl, hd2, by simpa [rmF] using hf2, Own.refl _ _⟩
    case round =>
      obtain ⟨i, hig, rfl, hdr, hfr, hO⟩ := hrel
      have HIG := Lib.hid hig
      by_cases hi : i < m
      · have el : decide ((i : Int) < (m : Int)) = true := by simp; omega
        have el' : decide (i < m) = true := by simp; omega
        clear hig
        obtain ⟨bb, oo, rfl, hbb, hcell⟩ := hs.at_ hi
        have hrt := rmF_take (f := g) (a := S.data.toList) (bs := bs) (i := i) (by have := HM.out; omega)
        have hsz := HBL.out bs[i]! (by rw [getElem!_pos bs i (by have := HM.out; omega)]; exact List.getElem_mem _)
        obtain ⟨s, hs'⟩ : ∃ s, bs[i]! = s := ⟨_, rfl⟩
        rw [hs'] at hcell hrt hsz
        unfold txtV at hcell
        have hks := cat_size S s
        have hkz : (S ++ (⟨#[47]⟩ : ByteArray) ++ (⟨s.toArray⟩ : ByteArray)).size ≤ maxLen := by rw [hks]; unfold maxLen; omega
        obtain ⟨X, hX⟩ : ∃ X : ByteArray, (⟨s.toArray⟩ : ByteArray) = X := ⟨_, rfl⟩
        have hkb : S.data.toList ++ 47 :: X.data.toList = S.data.toList ++ [47] ++ s := by rw [← hX]; simp
        rw [hX] at hcell hkz
        have hXz : X.size ≤ 1073741824 := by rw [← hX, ← text_size3]; exact hsz
        have hbbne : two md mf bb = 0 := by
          apply two_ne
          · rintro rfl
            obtain ⟨D, ⟨es, clock, h1, _⟩, _⟩ := hd2
            simp [World.cell?, h1] at hcell
          · rintro rfl
            obtain ⟨D, ⟨es, clock, h1, _⟩, _⟩ := hf2
            simp [World.cell?, h1] at hcell
        have e1 := cell_own hO hcell hbbne
        have e2 := cell_own hO c2 (two_ne hbd hbf)
        have e3 : _ = some (Value.map (some mf)) := cell_own hO (hq2.cell 1) (two_ne hqd hqf)
        have HRT := Lib.hid hrt
        have HKB := Lib.hid hkb
        clear hrt hkb hs' hX hcell hks
        go_wp2_with (at_delete; refine wpList_del _ rfl _ _ rfl Tryz.underlying9 Tryz.underlying120 rfl hfr rfl hkz ?_)
        intro w3 hf3 hg3 _
        rw [HKB.out] at hf3
        have hd3 := hdr.grown hg3 (by simpa using hne)
        have hO3 := hO.trans (Own.of_grown hg3 (two_r md mf))
        go_wp2_with fail
        go_roundg (gk - 1)
        case measure => have := HIG.out; omega
        case rel => exact ⟨i + 1, by have := HIG.out; omega, by go_num, hd3, by rw [HRT.out]; exact hf3, hO3⟩
      · have el : decide ((i : Int) < (m : Int)) = false := by simp; omega
        have el' : decide (i < m) = false := by simp; omega
        have htk : bs.take i = bs := List.take_of_length_le (by have := HM.out; omega)
        rw [htk] at hfr
        clear htk hig
        go_wp2_with fail
        go_meet
        exact ⟨hdr, hfr, hO⟩
  case rest =>
    obtain ⟨hd3, hf3, hO3⟩ := hcut
    obtain ⟨w3, rfl⟩ : ∃ x, x = wc := ⟨_, rfl⟩
    have e1 := cell_own hO3 c2 (two_ne hbd hbf)
    have e2 : _ = some (Value.map (some mf)) := cell_own hO3 (hq2.cell 1) (two_ne hqd hqf)
    have hSm : S.size ≤ maxLen := by unfold maxLen; omega
    clear c2
    go_wp2_with (at_delete; refine wpList_del _ rfl _ _ rfl Tryz.underlying9 Tryz.underlying120 rfl hf3 rfl hSm ?_)
    intro w4 hf4 hg4 _
    have hd4 := hd3.grown hg4 (by simpa using hne)
    have hO4 := hO3.trans (Own.of_grown hg4 (two_r md mf))
    have e3 := cell_own (Own.of_grown (R := two md mf) hg4 (two_r md mf)) e1 (two_ne hbd hbf)
    have e4 : _ = some (Value.map (some md)) := cell_own hO4 (hq2.cell 0) (two_ne hqd hqf)
    clear e1 e2
    go_wp2_with (at_delete; refine wpList_del _ rfl _ _ rfl Tryz.underlying9 Tryz.underlying119 rfl hd4 rfl hSm ?_)
    intro w5 hd5 hg5 _
    have hf5 := hf4.grown hg5 (by simpa using Ne.symm hne)
    have hO5 := hO4.trans (Own.of_grown hg5 (two_l md mf))
    go_wp2_with fail
    go_end0
    exact ⟨bs, HND.out, HBS.out, rfl, hd5, hf5, (Own.of_below hB2).trans hO5⟩
end
end Go.Proofs.YtfpgbhimgfdddaaGreatDoor

/- The walks of layer 3 (disk): move, and the step of a rename. -/
namespace Go.Proofs.YtfpgbhimgfdddaaGreatDoor
open Go.RowKit Go.Shelf Go.Maps Go.Sort
attribute [local go_sem ↓] Go.wp_at_zero Go.wp_at_succ
attribute [local go_sem] Later.cell Later.frozen

theorem mvF_take {f : Txt → Option Value} {a b : Txt} {bs : List Txt} {i : Nat} (h : i < bs.length) : mvF f a b (bs.take (i + 1)) = upd (upd (mvF f a b (bs.take i)) (b ++ [47] ++ bs[i]!) (mvF f a b (bs.take i) (a ++ [47] ++ bs[i]!))) (a ++ [47] ++ bs[i]!) none := by
  unfold mvF
  rw [List.take_succ_eq_append_getElem h, getElem!_pos bs i h, List.foldl_append]
  rfl
theorem mvF_old {f : Txt → Option Value} {a b : Txt} {bs : List Txt} (hn : bs.Nodup) (hab : ∀ s t : Txt, a ++ [47] ++ s ≠ b ++ [47] ++ t) {i : Nat} (h : i < bs.length) : mvF f a b (bs.take i) (a ++ [47] ++ bs[i]!) = f (a ++ [47] ++ bs[i]!) := by
  rw [mvF_at f hab (bs.take i) (hn.sublist (List.take_sublist _ _)) f (fun _ _ => rfl), if_neg]
  · have hf : (bs.take i).find? (fun s => a ++ [47] ++ bs[i]! == b ++ [47] ++ s) = none := by
      rw [List.find?_eq_none]
      intro t _
      simp only [beq_iff_eq]
      exact hab _ t
    rw [hf]
  · rintro ⟨s, hs, e⟩
    have := app_cancel e
    rw [getElem!_pos bs i h] at this
    obtain ⟨j, hj, e2⟩ := List.getElem_of_mem hs
    rw [List.length_take] at hj
    rw [List.getElem_take] at e2
    have := (List.getElem_inj hn).1 (e2.trans this.symm)
    omega
theorem mvF_keys {f : Txt → Option Value} {a b : Txt} {bs L : List Txt} (hn : bs.Nodup) (hab : ∀ s t : Txt, a ++ [47] ++ s ≠ b ++ [47] ++ t) (hL : ∀ x, (f x).isSome = true → x ∈ L) (i : Nat) : ∀ x, (mvF f a b (bs.take i) x).isSome = true → x ∈ L ++ bs.map (fun s => b ++ [47] ++ s) := by
  intro x hx
  rw [mvF_at f hab (bs.take i) (hn.sublist (List.take_sublist _ _)) f (fun _ _ => rfl)] at hx
  split at hx
  · cases hx
  · split at hx
    · rename_i s hs
      have h1 := List.find?_some hs
      have h2 := List.mem_of_find?_eq_some hs
      simp only [beq_iff_eq] at h1
      rw [h1]
      exact List.mem_append.2 (.inr (List.mem_map.2 ⟨s, List.mem_of_mem_take h2, rfl⟩))
    · exact List.mem_append.2 (.inl (hL x hx))

section
variable {md mf : Nat} {f g : Txt → Option Value}
set_option maxRecDepth 100000 in
set_option maxHeartbeats 2000000 in
theorem move_file_calls (S T : ByteArray) (P : Option Addr) (w : World) (hd : SM w md f) (hf : SM w mf g) (hne : md ≠ mf) (hfa : f S.data.toList = none) (hga : g S.data.toList = some (.pointer P)) (hS : S.size ≤ maxLen) (hT : T.size ≤ maxLen) (L : List Txt) (hL : ∀ x, (g x).isSome = true → x ∈ L) (hn : L.length < maxLen) :
    Calls Tryz.prog 114 #[.agg #[.map (some md), .map (some mf)], .string S, .string T] w (DoOut md mf f (upd (upd g T.data.toList (some (.pointer P))) S.data.toList none) w) := by
  have HL := Lib.hid hL
  have HFA := Lib.hid hfa
  have HGA := Lib.hid hga
  clear hL hfa hga
  go_enter Tryz.func114, Tryz.ntmps114
  go_upto_region 1 with fail
  obtain ⟨w1, hw1⟩ : ∃ x, w.alloc (.cells #[.map (some md), .map (some mf)] 122) = x := ⟨_, rfl⟩
  have hb1 : Below w.heap.size w w1 := by rw [← hw1]; exact (Below.refl _ _).alloc (Nat.le_refl _) _
  have hq : Blk w1 w.heap.size 122 #[.map (some md), .map (some mf)] := by rw [← hw1]; exact Blk.new _ _ _
  rw [hw1]
  obtain ⟨q, hqq⟩ : ∃ q, w.heap.size = q := ⟨_, rfl⟩
  have hqd : q ≠ md := by have := hd.lt; omega
  have hqf : q ≠ mf := by have := hf.lt; omega
  rw [hqq] at hq ⊢
  have q0 : _ = some (Value.map (some md)) := hq.cell 0
  have q1 : _ = some (Value.map (some mf)) := hq.cell 1
  have hd1 := hd.below hb1 hd.lt
  have hf1 := hf.below hb1 hf.lt
  clear hw1 hd hf hqq
  go_wp2_with (first
    | (at_lookup; refine wpList_look (T := 119) _ rfl _ _ rfl Tryz.underlying9 Tryz.underlying119 (zeroI _) rfl hd1 rfl hS (.int .i64 0) (by rw [HFA.out]; rfl) ?_)
    | (at_lookup; refine wpList_look (T := 120) _ rfl _ _ rfl Tryz.underlying9 Tryz.underlying120 (zeroFl _) rfl hf1 rfl hS (.pointer P) (by rw [HGA.out]; rfl) ?_)
    | (at_mapUpdate; refine wpList_put _ rfl _ _ _ rfl Tryz.underlying9 Tryz.underlying120 rfl hf1 rfl hT _ rfl L HL.out hn ?_))
  intro w2 hf2 hg2 _
  have hd2 := hd1.grown hg2 (by simpa using hne)
  have hq2 := hq.grown hg2 (by simpa using hqf)
  have e1 : _ = some (Value.map (some mf)) := hq2.cell 1
  clear q0 q1
  go_wp2_with (at_delete; refine wpList_del _ rfl _ _ rfl Tryz.underlying9 Tryz.underlying120 rfl hf2 rfl hS ?_)
  intro w3 hf3 hg3 _
  have hd3 := hd2.grown hg3 (by simpa using hne)
  have hO : Own (two md mf) (two md mf) w w3 := ((Own.of_below hb1).trans (Own.of_grown hg2 (two_r _ _))).trans (Own.of_grown hg3 (two_r _ _))
  go_wp2_with fail
  go_end0
  exact ⟨rfl, hd3, hf3, hO⟩

set_option maxRecDepth 100000 in
set_option maxHeartbeats 4000000 in
theorem move_dir_calls (S T : ByteArray) (w : World) (hd : SM w md f) (hf : SM w mf g) (hne : md ≠ mf) (hfa : f S.data.toList = some (.int .i64 1)) (hST : ∀ s t : Txt, S.data.toList ++ [47] ++ s ≠ T.data.toList ++ [47] ++ t) (hg : ∀ x v, g x = some v → ∃ P, v = .pointer P) (hS : S.size ≤ 1073741824) (hT : T.size ≤ 1073741824)
    (L : List Txt) (hL : ∀ x, (g x).isSome = true → x ∈ L) (hn : L.length ≤ 1073741824) (hz : ∀ x ∈ L, x.length ≤ 1073741824) (LD : List Txt) (hLD : ∀ x, (f x).isSome = true → x ∈ LD) (hnD : LD.length ≤ 1073741824) :
    Calls Tryz.prog 114 #[.agg #[.map (some md), .map (some mf)], .string S, .string T] w fun e w' => ∃ bs : List Txt, bs.Nodup ∧ (∀ x, x ∈ bs ↔ (g (S.data.toList ++ [47] ++ x)).isSome = true) ∧ DoOut md mf (upd (upd f S.data.toList none) T.data.toList (some (.int .i64 1))) (mvF g S.data.toList T.data.toList bs) w e w' := by
  have hSm : S.size ≤ maxLen := by unfold maxLen; omega
  have hTm : T.size ≤ maxLen := by unfold maxLen; omega
  have hLD2 : ∀ x, (upd f S.data.toList none x).isSome = true → x ∈ LD := by
    intro x hx
    unfold upd at hx
    split at hx
    · cases hx
    · exact hLD x hx
  have HLD := Lib.hid hLD2
  have HL := Lib.hid hL
  have HZ := Lib.hid hz
  have HFA := Lib.hid hfa
  have HST := Lib.hid hST
  have HG := Lib.hid hg
  clear hL hfa hST hz hLD hLD2 hg
  go_enter Tryz.func114, Tryz.ntmps114
  go_upto_region 1 with fail
  obtain ⟨w1, hw1⟩ : ∃ x, w.alloc (.cells #[.map (some md), .map (some mf)] 122) = x := ⟨_, rfl⟩
  have hb1 : Below w.heap.size w w1 := by rw [← hw1]; exact (Below.refl _ _).alloc (Nat.le_refl _) _
  have hq : Blk w1 w.heap.size 122 #[.map (some md), .map (some mf)] := by rw [← hw1]; exact Blk.new _ _ _
  rw [hw1]
  obtain ⟨q, hqq⟩ : ∃ q, w.heap.size = q := ⟨_, rfl⟩
  have hqd : q ≠ md := by have := hd.lt; omega
  have hqf : q ≠ mf := by have := hf.lt; omega
  rw [hqq] at hq ⊢
  have q0 : _ = some (Value.map (some md)) := hq.cell 0
  have hd1 := hd.below hb1 hd.lt
  have hf1 := hf.below hb1 hf.lt
  clear hw1 hd hf hqq
  go_wp2_with (first
    | (at_lookup; refine wpList_look (T := 119) _ rfl _ _ rfl Tryz.underlying9 Tryz.underlying119 (zeroI _) rfl hd1 rfl hSm (.int .i64 1) (by rw [HFA.out]; rfl) ?_)
    | (at_delete; refine wpList_del _ rfl _ _ rfl Tryz.underlying9 Tryz.underlying119 rfl hd1 rfl hSm ?_))
  intro w2 hd2 hg2 _
  have hf2 := hf1.grown hg2 (by simpa using Ne.symm hne)
  have hq2 := hq.grown hg2 (by simpa using hqd)
  have e0 : _ = some (Value.map (some md)) := hq2.cell 0
  clear q0
  go_wp2_with (at_mapUpdate; refine wpList_put _ rfl _ _ _ rfl Tryz.underlying9 Tryz.underlying119 rfl hd2 rfl hTm _ rfl LD HLD.out (by unfold maxLen; omega) ?_)
  intro w3 hd3 hg3 _
  have hf3 := hf2.grown hg3 (by simpa using Ne.symm hne)
  have hq3 := hq2.grown hg3 (by simpa using hqd)
  have e0' : _ = some (Value.map (some md)) := hq3.cell 0
  have e1' : _ = some (Value.map (some mf)) := hq3.cell 1
  have hO3 : Own (two md mf) (two md mf) w w3 := ((Own.of_below hb1).trans (Own.of_grown hg2 (two_l _ _))).trans (Own.of_grown hg3 (two_l _ _))
  clear e0 hd1 hf1 hd2 hf2 hg2 hg3 hb1 hq hq2
  go_wp2_with fail
  refine (within_calls (some md) (some mf) mf rfl g S w3 hf3 L HL.out hn hS HZ.out).mono ?_
  rintro e w4 ⟨A, c, bs, rfl, hs, hc, hasc, hbs, hb4⟩
  have hnd : bs.Nodup := List.Pairwise.imp (fun {a b} h => by intro e; subst e; exact List.lt_irrefl _ h) hasc
  have hbl2 : ∀ x ∈ bs, x.length ≤ 1073741824 := by
    intro x hx
    have h1 := HZ.out _ (HL.out _ ((hbs x).1 hx))
    simp at h1
    omega
  have HBS := Lib.hid hbs
  have HND := Lib.hid hnd
  have HBL := Lib.hid hbl2
  have hd4 := hd3.below hb4 hd3.lt
  have hf4 := hf3.below hb4 hf3.lt
  have hq4 := hq3.below hb4 hq3.lt
  have hO4 := hO3.trans (Own.of_below hb4)
  obtain ⟨m, hm⟩ : ∃ m, bs.length = m := ⟨_, rfl⟩
  have HM := Lib.hid hm
  rw [hm] at hs hc ⊢
  have hml : m ≤ 1073741824 := by rw [← hm]; exact Nat.le_trans (out_len hnd fun x hx => HL.out _ ((hbs x).1 hx)) hn
  clear hbs hnd hbl2 hb4 hd3 hf3 hq3 e0' e1' hm hasc hO3
  go_wp2_with fail
  go_loopg [33] m (fun k s33 wr => ∃ i : Nat, i + k = m ∧ s33 = .int .i64 (i : Int) ∧ SM wr md (upd (upd f S.data.toList none) T.data.toList (some (.int .i64 1))) ∧ SM wr mf (mvF g S.data.toList T.data.toList (bs.take i)) ∧ Own (two md mf) (two md mf) w4 wr)
  case atStart => exact ⟨0, by omega, rfl, hd4, by simpa [mvF] using hf4, Own.refl _ _⟩
  case round =>
    obtain ⟨i, hig, rfl, hdr, hfr, hO⟩ := hrel
    have HIG := Lib.hid hig
    by_cases hi : i < m
    · have el : decide ((i : Int) < (m : Int)) = true := by simp; omega
      have el' : decide (i < m) = true := by simp; omega
      clear hig
      obtain ⟨bb, oo, rfl, hbb, hcell⟩ := hs.at_ hi
      have hil : i < bs.length := by have := HM.out; omega
      have hmt := mvF_take (f := g) (a := S.data.toList) (b := T.data.toList) hil
      have hmo := mvF_old (f := g) (a := S.data.toList) (b := T.data.toList) HND.out HST.out hil
      have hmk := mvF_keys (f := g) (a := S.data.toList) (b := T.data.toList) (bs := bs) (L := L) HND.out HST.out HL.out i
      have hmem : bs[i]! ∈ bs := by rw [getElem!_pos bs i hil]; exact List.getElem_mem _
      have hsz := HBL.out bs[i]! hmem
      have hsome := (HBS.out bs[i]!).1 hmem
      obtain ⟨s, hs'⟩ : ∃ s, bs[i]! = s := ⟨_, rfl⟩
      rw [hs'] at hcell hmt hmo hsz hsome
      obtain ⟨v, hv⟩ := Option.isSome_iff_exists.1 hsome
      obtain ⟨P, rfl⟩ := HG.out _ v hv
      rw [hv] at hmo
      rw [hmo] at hmt
      unfold txtV at hcell
      have k1 : (S ++ (⟨#[47]⟩ : ByteArray) ++ (⟨s.toArray⟩ : ByteArray)).size ≤ maxLen := by rw [cat_size]; unfold maxLen; omega
      have k2 : (T ++ (⟨#[47]⟩ : ByteArray) ++ (⟨s.toArray⟩ : ByteArray)).size ≤ maxLen := by rw [cat_size]; unfold maxLen; omega
      have hgk : mvF g S.data.toList T.data.toList (bs.take i) (S ++ (⟨#[47]⟩ : ByteArray) ++ (⟨s.toArray⟩ : ByteArray)).data.toList = some (.pointer P) := by rw [cat_bytes]; exact hmo
      obtain ⟨X, hX⟩ : ∃ X : ByteArray, (⟨s.toArray⟩ : ByteArray) = X := ⟨_, rfl⟩
      have b1 : S.data.toList ++ 47 :: X.data.toList = S.data.toList ++ [47] ++ s := by rw [← hX]; simp
      have b2 : T.data.toList ++ 47 :: X.data.toList = T.data.toList ++ [47] ++ s := by rw [← hX]; simp
      rw [hX] at hcell k1 k2 hgk
      have hXz : X.size ≤ 1073741824 := by rw [← hX, ← text_size3]; exact hsz
      have hbbne : two md mf bb = 0 := by
        apply two_ne
        · rintro rfl
          obtain ⟨D, ⟨es, clock, h1, _⟩, _⟩ := hd4
          simp [World.cell?, h1] at hcell
        · rintro rfl
          obtain ⟨D, ⟨es, clock, h1, _⟩, _⟩ := hf4
          simp [World.cell?, h1] at hcell
      have e1 := cell_own hO hcell hbbne
      have e3 : _ = some (Value.map (some mf)) := cell_own hO (hq4.cell 1) (two_ne hqd hqf)
      have hLn : (L ++ bs.map (fun s => T.data.toList ++ [47] ++ s)).length < maxLen := by rw [List.length_append, List.length_map, HM.out]; unfold maxLen; omega
      have HMT := Lib.hid hmt
      have B1 := Lib.hid b1
      have B2 := Lib.hid b2
      have HGK := Lib.hid hgk
      have HMK := Lib.hid hmk
      clear hmt hmo hmk b1 b2 hgk hs' hX hcell hv hsome hsz hmem hil
      go_wp2_with (first
        | (at_lookup; refine wpList_look (T := 120) _ rfl _ _ rfl Tryz.underlying9 Tryz.underlying120 (zeroFl _) rfl hfr rfl k1 (.pointer P) (by rw [HGK.out]; rfl) ?_)
        | (at_mapUpdate; refine wpList_put _ rfl _ _ _ rfl Tryz.underlying9 Tryz.underlying120 rfl hfr rfl k2 _ rfl _ HMK.out hLn ?_))
      intro w5 hf5 hg5 _
      rw [B2.out] at hf5
      have hd5 := hdr.grown hg5 (by simpa using hne)
      have hO5 := hO.trans (Own.of_grown hg5 (two_r md mf))
      have e4 : _ = some (Value.map (some mf)) := cell_own hO5 (hq4.cell 1) (two_ne hqd hqf)
      clear e3 e1
      go_wp2_with (at_delete; refine wpList_del _ rfl _ _ rfl Tryz.underlying9 Tryz.underlying120 rfl hf5 rfl k1 ?_)
      intro w6 hf6 hg6 _
      rw [B1.out, show T.data.toList ++ 47 :: s = T.data.toList ++ [47] ++ s by simp] at hf6
      have hd6 := hd5.grown hg6 (by simpa using hne)
      have hO6 := hO5.trans (Own.of_grown hg6 (two_r md mf))
      go_wp2_with fail
      go_roundg (gk - 1)
      case measure => have := HIG.out; omega
      case rel => exact ⟨i + 1, by have := HIG.out; omega, by go_num, hd6, by rw [HMT.out]; exact hf6, hO6⟩
    · have el : decide ((i : Int) < (m : Int)) = false := by simp; omega
      have el' : decide (i < m) = false := by simp; omega
      have htk : bs.take i = bs := List.take_of_length_le (by have := HM.out; omega)
      rw [htk] at hfr
      clear htk hig
      go_wp2_with fail
      go_end0
      exact ⟨bs, HND.out, HBS.out, rfl, hdr, hfr, hO4.trans hO⟩

set_option maxHeartbeats 1000000 in
theorem rename1_calls (b c : Nat) (S T : ByteArray) (w : World) (Q : Ending → World → Prop) (hb : w.cell? ⟨b, 0, none⟩ = some (.string S)) (hc : w.cell? ⟨c, 0, none⟩ = some (.string T))
    (hQ : ∀ w1, Below w.heap.size w w1 → Calls Tryz.prog 114 #[.agg #[.map (some md), .map (some mf)], .string S, .string T] w1 fun e w' => e = .returned (.tuple #[]) ∧ Q e w') :
    Calls Tryz.prog 113 #[.agg #[.map (some md), .map (some mf)], .pointer (some ⟨b, 0, none⟩), .pointer (some ⟨c, 0, none⟩)] w Q := by
  have HQ := Lib.hid hQ
  clear hQ
  go_enter Tryz.func113, Tryz.ntmps113
  go_upto_region 1 with fail
  obtain ⟨w1, hw1⟩ : ∃ x, w.alloc (.cells #[.map (some md), .map (some mf)] 122) = x := ⟨_, rfl⟩
  have hb1 : Below w.heap.size w w1 := by rw [← hw1]; exact (Below.refl _ _).alloc (Nat.le_refl _) _
  have hq : Blk w1 w.heap.size 122 #[.map (some md), .map (some mf)] := by rw [← hw1]; exact Blk.new _ _ _
  rw [hw1]
  obtain ⟨q, hqq⟩ : ∃ q, w.heap.size = q := ⟨_, rfl⟩
  have c1 := later hb1 hb
  have c2 := later hb1 hc
  have HB1 := Lib.hid hb1
  rw [hqq] at hq ⊢
  have q0 : _ = some (Value.map (some md)) := hq.cell 0
  have q1 : _ = some (Value.map (some mf)) := hq.cell 1
  clear hw1 hqq hb hc hb1
  go_wp2_with fail
  refine (HQ.out w1 HB1.out).mono ?_
  rintro e w2 ⟨rfl, hq2⟩
  have H2 := Lib.hid hq2
  clear hq2
  go_wp2_with fail
  go_end0
  exact H2.out
end
end Go.Proofs.YtfpgbhimgfdddaaGreatDoor

/- The walks of layer 3 (disk): every step, by what it does to what there is; names. -/
namespace Go.Proofs.YtfpgbhimgfdddaaGreatDoor
open Go.RowKit Go.Shelf Go.Maps Go.Sort
attribute [local go_sem ↓] Go.wp_at_zero Go.wp_at_succ
attribute [local go_sem] Later.cell Later.frozen

theorem nameB_len {s : Txt} (h : nameB s = true) : s.length ≤ 32 := by
  simp only [nameB, Bool.and_eq_true, decide_eq_true_eq] at h
  exact h.2
theorem pathB_len {s : Txt} (h : pathB s = true) : s.length ≤ 65 := by
  unfold pathB at h
  cases hs : slashAt s with
  | none => rw [hs] at h; have := nameB_len h; omega
  | some k =>
    rw [hs] at h
    simp only [Bool.and_eq_true] at h
    have h1 := nameB_len h.1
    have h2 := nameB_len h.2
    have := slashAt_lt2 hs
    rw [List.length_take] at h1
    rw [List.length_drop] at h2
    omega
theorem blk_map {w : World} {b m : Nat} {T : TypeId} {cs : Array Value} {f : Txt → Option Value} (h : Blk w b T cs) (k : SM w m f) : b ≠ m := by
  rintro rfl
  obtain ⟨D, ⟨es, clock, h1, _⟩, _⟩ := k
  unfold Blk at h
  rw [h] at h1
  cases h1
theorem tobytes (a : Txt) : (⟨a.toArray⟩ : ByteArray).data.toList = a := by simp
theorem tosize (a : Txt) : (⟨a.toArray⟩ : ByteArray).size = a.length := by rw [← text_size3]

section
variable {n : Nat} {l : List Th} {φ : List Nat} {md mf : Nat} {w : World} {R : Nat → Nat}
theorem dirF_in {x : Txt} (h : (dirF l x).isSome = true) : x ∈ l.map Th.path := by
  obtain ⟨y, hy, _, e⟩ := dirF_some.1 h
  exact List.mem_map.2 ⟨y, hy, e⟩
theorem filF_in {x : Txt} (h : (filF φ l x).isSome = true) : x ∈ l.map Th.path := by
  unfold filF at h
  cases hf : l.find? fun y => !y.dir && y.path == x with
  | none => rw [hf] at h; cases h
  | some y =>
    have h1 := List.find?_some hf
    simp only [Bool.and_eq_true, beq_iff_eq] at h1
    exact List.mem_map.2 ⟨y, List.mem_of_find?_eq_some hf, h1.2⟩
theorem paths_short (hw : TW n l) : ∀ x ∈ l.map Th.path, x.length ≤ 1073741824 := by
  intro x hx
  obtain ⟨y, hy, rfl⟩ := List.mem_map.1 hx
  have := pathB_len (hw.paths y hy)
  omega
theorem filF_ptr {x : Txt} {v : Value} (h : filF φ l x = some v) : ∃ P, v = .pointer P := by
  unfold filF at h
  cases hf : l.find? fun y => !y.dir && y.path == x with
  | none => rw [hf] at h; cases h
  | some y => rw [hf] at h; injection h with h; exact ⟨_, h.symm⟩
/-- Any step, by its function and what it has caught. -/
theorem do_calls (s : St) (F : Nat) (C : Array Value) (hw : TW n l) (hok : StOk n l s) (hl : l.length ≤ 1073741824) (hd : SM w md (dirF l)) (hf : SM w mf (filF φ l)) (hne : md ≠ mf) (hv : StepM w R φ s (.func (.func F) #[] C)) :
    Calls Tryz.prog F (#[.agg #[.map (some md), .map (some mf)]] ++ C) w (DoOut md mf (dirF (applyS l s)) (filF φ (applyS l s)) w) := by
  have hlm : (l.map Th.path).length ≤ 1073741824 := by rw [List.length_map]; exact hl
  have hmx : maxLen = 9223372036854775807 := rfl
  cases s with
  | mkdir a =>
    obtain ⟨b, e, h1, h2⟩ := hv
    injection e with e1 e2 e3
    injection e1 with e1
    subst e1 e3
    have hc : _ = some (Value.string ⟨a.toArray⟩) := h1.cell 0
    have ha := nameB_len hok.1
    have := mkdir1_calls (md := md) (mf := mf) b ⟨a.toArray⟩ w hd hf hne hc (by rw [tosize]; omega) (l.map Th.path) (fun x hx => dirF_in hx) (by omega)
    rw [tobytes] at this
    rw [dirF_mkdir, filF_mkdir]
    exact this
  | create a i =>
    obtain ⟨b, c, e, ⟨h1, h2⟩, h3, h4⟩ := hv
    injection e with e1 e2 e3
    injection e1 with e1
    subst e1 e3
    have hc : _ = some (Value.string ⟨a.toArray⟩) := h1.cell 0
    have hc2 : _ = some (fptr φ i) := h3.cell 0
    have ha := pathB_len hok.1
    have := create1_calls (md := md) (mf := mf) b c ⟨a.toArray⟩ _ w hd hf hne hc hc2 (by rw [tosize]; omega) (l.map Th.path) (fun x hx => filF_in hx) (by omega)
    rw [tobytes] at this
    rw [dirF_create, filF_create hok.2.2.1]
    exact this
  | remove a =>
    obtain ⟨b, e, h1, h2⟩ := hv
    injection e with e1 e2 e3
    injection e1 with e1
    subst e1 e3
    have hc : _ = some (Value.string ⟨a.toArray⟩) := h1.cell 0
    have ha := pathB_len hok.1
    have := remove1_calls (md := md) (mf := mf) b ⟨a.toArray⟩ w hd hf hne hc (blk_map h1 hd) (blk_map h1 hf) (by rw [tosize]; omega) (l.map Th.path) (fun x hx => filF_in hx) hlm (paths_short hw)
    rw [tobytes] at this
    refine this.mono ?_
    rintro e w' ⟨bs, _, hbs, hD⟩
    rw [dirF_remove hw, filF_rm hw hbs]
    exact hD
  | rename a b =>
    obtain ⟨b', c, e, ⟨h1, h2⟩, h3, h4⟩ := hv
    injection e with e1 e2 e3
    injection e1 with e1
    subst e1 e3
    have hc : _ = some (Value.string ⟨a.toArray⟩) := h1.cell 0
    have hc2 : _ = some (Value.string ⟨b.toArray⟩) := h3.cell 0
    have ha := pathB_len hok.1
    have hb := pathB_len hok.2.1
    refine rename1_calls (md := md) (mf := mf) b' c ⟨a.toArray⟩ ⟨b.toArray⟩ w _ hc hc2 ?_
    intro w1 hb1
    have hd1 := hd.below hb1 hd.lt
    have hf1 := hf.below hb1 hf.lt
    rcases isT_range l a with h0 | h0 | h0
    · exact absurd h0 hok.2.2.1
    · obtain ⟨v, hv⟩ := Option.isSome_iff_exists.1 ((filF_one (φ := φ) hw).2 h0)
      obtain ⟨P, rfl⟩ := filF_ptr hv
      have hda : dirF l a = none := by
        cases hda : dirF l a with
        | none => rfl
        | some u =>
          have := (dirF_two hw).1 (show (dirF l a).isSome = true by rw [hda]; rfl)
          omega
      have := move_file_calls (md := md) (mf := mf) ⟨a.toArray⟩ ⟨b.toArray⟩ P w1 hd1 hf1 hne (by rw [tobytes]; exact hda) (by rw [tobytes]; exact hv) (by rw [tosize]; omega) (by rw [tosize]; omega) (l.map Th.path) (fun x hx => filF_in hx) (by omega)
      rw [tobytes, tobytes] at this
      refine this.mono ?_
      rintro e w' ⟨k1, k2, k3, k4⟩
      refine ⟨k1, k1, ?_, ?_, (Own.of_below hb1).trans k4⟩
      · rw [dirF_ren_file hw hok h0]; exact k2
      · rw [filF_ren_file hw hok h0, hv]; exact k3
    · obtain ⟨v, hv⟩ := Option.isSome_iff_exists.1 ((dirF_two hw).2 h0)
      have hv1 := dirF_val hv
      subst hv1
      have hna : nameB a = true := by
        obtain ⟨z, hz, hzd, hzp⟩ := (isT_two hw.nodup).1 h0
        rw [← hzp]; exact hw.dirs z hz hzd
      have hnb := (hok.2.2.2.2.2.1 h0).1
      have hST : ∀ s t : Txt, a ++ [47] ++ s ≠ b ++ [47] ++ t := by
        intro s t e
        have k1 := slashAt_app s (nameB_slash hna)
        have k2 := slashAt_app t (nameB_slash hnb)
        rw [e, k2] at k1
        injection k1 with k1
        apply hok.2.2.2.2.2.2
        have k3 := congrArg (List.take b.length) e
        rw [List.append_assoc, List.append_assoc, List.take_left] at k3
        rw [← k3, k1, List.take_left]
      have := move_dir_calls (md := md) (mf := mf) ⟨a.toArray⟩ ⟨b.toArray⟩ w1 hd1 hf1 hne (by rw [tobytes]; exact hv) (by rw [tobytes, tobytes]; exact hST) (fun x v h => filF_ptr h) (by rw [tosize]; omega) (by rw [tosize]; omega) (l.map Th.path) (fun x hx => filF_in hx) hlm (paths_short hw) (l.map Th.path) (fun x hx => dirF_in hx) hlm
      rw [tobytes, tobytes] at this
      refine this.mono ?_
      rintro e w' ⟨bs, hnd, hbs, k1, k2, k3, k4⟩
      refine ⟨k1, k1, ?_, ?_, (Own.of_below hb1).trans k4⟩
      · rw [dirF_ren_dir hw hok h0]; exact k2
      · rw [filF_ren_dir hw hok h0 hnd hbs]; exact k3
end

/-! ### names -/
section
variable {B0 : Nat} {a : Nat → Addr} {R : Nat → Nat} {A : Adr} {d : Ds} {w w' : World}
/-- The maps of what there is have turned. -/
theorem CD.maps_only (h : CD B0 w R A d) {l : List Th} (ho : Own (two A.md A.mf) (two A.md A.mf) w w') (hd : SM w' A.md (dirF l)) (hf : SM w' A.mf (filF A.φ l)) : CD B0 w' R A { d with things := l } := by
  have key : ∀ k, R k ≠ 0 → R k ≠ 2 → R k ≠ 3 → w'.heap[k]? = w.heap[k]? ∧ R k = R k := fun k hk h2 h3 => ⟨ho.block k (h.inw k hk) (two_ne (fun e => h2 (by rw [e]; exact h.dirs.2)) (fun e => h3 (by rw [e]; exact h.files.2))), rfl⟩
  exact {
    blk := ((key A.p (by rw [h.rp]; omega) (by rw [h.rp]; omega) (by rw [h.rp]; omega)).1).trans h.blk
    rp := h.rp
    dirs := ⟨hd, h.dirs.2⟩
    files := ⟨hf, h.files.2⟩
    sdirs := h.sdirs.same fun k hk => key k (by omega) (by omega) (by omega)
    sfiles := h.sfiles.same fun k hk => key k (by omega) (by omega) (by omega)
    steps := h.steps.same fun k hk => key k (by omega) (by omega) (by omega)
    bytes := h.bytes.same fun k hk => key k (by omega) (by omega) (by omega)
    inw := h.inw.mono ho.size
    low := h.low }
theorem CD.md_mf (h : CD B0 w R A d) : A.md ≠ A.mf := by
  intro e
  have h1 := h.dirs.2
  have h2 := h.files.2
  rw [e] at h1
  omega
theorem Own.of_two (h : CD B0 w R A d) (ho : Own (two A.md A.mf) (two A.md A.mf) w w') : Own R R w w' :=
  ⟨ho.os, ho.tape, ho.output, ho.size, fun k hk hr => ho.block k hk (two_ne (fun e => by have := h.dirs.2; rw [← e] at this; omega) (fun e => by have := h.files.2; rw [← e] at this; omega)), fun _ _ => rfl⟩
/-- A row's block has the role r. -/
def rowR (R : Nat → Nat) (v : Value) (r : Nat) : Nat → Nat := fun k => if v.ownBlock = some k then r else R k
theorem rowR_old {v v' : Value} {r : Nat} (hv : ∀ g, v.ownBlock = some g → R g = r) (hat : v'.ownBlock = v.ownBlock ∨ ∃ g, v'.ownBlock = some g ∧ w.heap.size ≤ g) {k : Nat} (hk : k < w.heap.size) : rowR R v' r k = R k := by
  unfold rowR
  split
  · rename_i e
    rcases hat with h1 | ⟨g, h1, h2⟩
    · rw [h1] at e; exact (hv k e).symm
    · rw [h1] at e; injection e with e; omega
  · rfl
theorem info_func : (Tryz.prog.info? 145).map (fun i => (i.zero, i.size, i.bytes)) = some (some .nilFunc, 1, 8) := by kernel_rfl
end
end Go.Proofs.YtfpgbhimgfdddaaGreatDoor
