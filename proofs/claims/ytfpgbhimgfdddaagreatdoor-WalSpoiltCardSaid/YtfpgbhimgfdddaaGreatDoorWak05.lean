/- Merged (what the claim wants of): DskWalksG, DskWalksH, DskWalksI. -/
import Derived.Test.YtfpgbhimgfdddaaGreatDoorWak04
set_option linter.unusedVariables false
set_option linter.unusedSimpArgs false
/- The walks of layer 3 (disk): move, and the step of a rename. -/
namespace Go.Proofs.YtfpgbhimgfdddaaGreatDoor
open Go.RowKit Go.Shelf Go.Maps Go.Sort
attribute [local go_sem ↓] Go.wp_at_zero Go.wp_at_succ
attribute [local go_sem] Later.cell Later.frozen

theorem mvF_take {f : Txt → Option Value} {a b : Txt} {bs : List Txt} {i : Nat} (h : i < bs.length) : mvF f a b (bs.take (i + 1)) = upd (upd (mvF f a b (bs.take i)) (b ++ [47] ++ bs[i]!) (mvF f a b (bs.take i) (a ++ [47] ++ bs[i]!))) (a ++ [47] ++ bs[i]!) none := by
  unfold mvF
  rw [List.take_succ_eq_append_getElem h, getElem!_pos bs i h, List.foldl_append]
  rfl
theorem mvF_old {f : Txt → Option Value} {a b : Txt} {bs : List Txt} (hn : bs.Nodup) (hab : ∀ s t : Txt, a ++ [47] ++ s ≠ b ++ [47] ++ t) {i : Nat} (h : i < bs.length) : mvF f a b (bs.take i) (a ++ [47] ++ bs[i]!) = f (a ++ [47] ++ bs[i]!) := by
  rw [mvF_at f hab (bs.take i) (hn.sublist (List.take_sublist _ _)) f (fun _ _ => rfl), if_neg]
  · have hf : (bs.take i).find? (fun s => a ++ [47] ++ bs[i]! == b ++ [47] ++ s) = none := by
      rw [List.find?_eq_none]
      intro t _
      simp only [beq_iff_eq]
      exact hab _ t
    rw [hf]
  · rintro ⟨s, hs, e⟩
    have := app_cancel e
    rw [getElem!_pos bs i h] at this
    obtain ⟨j, hj, e2⟩ := List.getElem_of_mem hs
    rw [List.length_take] at hj
    rw [List.getElem_take] at e2
    have := (List.getElem_inj hn).1 (e2.trans this.symm)
    omega
theorem mvF_keys {f : Txt → Option Value} {a b : Txt} {bs L : List Txt} (hn : bs.Nodup) (hab : ∀ s t : Txt, a ++ [47] ++ s ≠ b ++ [47] ++ t) (hL : ∀ x, (f x).isSome = true → x ∈ L) (i : Nat) : ∀ x, (mvF f a b (bs.take i) x).isSome = true → x ∈ L ++ bs.map (fun s => b ++ [47] ++ s) := by
  intro x hx
  rw [mvF_at f hab (bs.take i) (hn.sublist (List.take_sublist _ _)) f (fun _ _ => rfl)] at hx
  split at hx
  · cases hx
  · split at hx
    · rename_i s hs
      have h1 := List.find?_some hs
      have h2 := List.mem_of_find?_eq_some hs
      simp only [beq_iff_eq] at h1
      rw [h1]
      exact List.mem_append.2 (.inr (List.mem_map.2 ⟨s, List.mem_of_mem_take h2, rfl⟩))
    · exact List.mem_append.2 (.inl (hL x hx))

section
variable {md mf : Nat} {f g : Txt → Option Value}
set_option maxRecDepth 100000 in
set_option maxHeartbeats 2000000 in
theorem move_file_calls (S T : ByteArray) (P : Option Addr) (w : World) (hd : SM w md f) (hf : SM w mf g) (hne : md ≠ mf) (hfa : f S.data.toList = none) (hga : g S.data.toList = some (.pointer P)) (hS : S.size ≤ maxLen) (hT : T.size ≤ maxLen) (L : List Txt) (hL : ∀ x, (g x).isSome = true → x ∈ L) (hn : L.length < maxLen) :
    Calls Tryz.prog 114 #[.agg #[.map (some md), .map (some mf)], .string S, .string T] w (DoOut md mf f (upd (upd g T.data.toList (some (.pointer P))) S.data.toList none) w) := by
  have HL := Lib.hid hL
  have HFA := Lib.hid hfa
  have HGA := Lib.hid hga
  clear hL hfa hga
  go_enter Tryz.func114, Tryz.ntmps114
  go_upto_region 1 with fail
  obtain ⟨w1, hw1⟩ : ∃ x, w.alloc (.cells #[.map (some md), .map (some mf)] 122) = x := ⟨_, rfl⟩
  have hb1 : Below w.heap.size w w1 := by rw [← hw1]; exact (Below.refl _ _).alloc (Nat.le_refl _) _
  have hq : Blk w1 w.heap.size 122 #[.map (some md), .map (some mf)] := by rw [← hw1]; exact Blk.new _ _ _
  rw [hw1]
  obtain ⟨q, hqq⟩ : ∃ q, w.heap.size = q := ⟨_, rfl⟩
  have hqd : q ≠ md := by have := hd.lt; omega
  have hqf : q ≠ mf := by have := hf.lt; omega
  rw [hqq] at hq ⊢
  have q0 : _ = some (Value.map (some md)) := hq.cell 0
  have q1 : _ = some (Value.map (some mf)) := hq.cell 1
  have hd1 := hd.below hb1 hd.lt
  have hf1 := hf.below hb1 hf.lt
  clear hw1 hd hf hqq
  go_wp2_with (first
    | (at_lookup; refine wpList_look (T := 119) _ rfl _ _ rfl Tryz.underlying9 Tryz.underlying119 (zeroI _) rfl hd1 rfl hS (.int .i64 0) (by rw [HFA.out]; rfl) ?_)
    | (at_lookup; refine wpList_look (T := 120) _ rfl _ _ rfl Tryz.underlying9 Tryz.underlying120 (zeroFl _) rfl hf1 rfl hS (.pointer P) (by rw [HGA.out]; rfl) ?_)
    | (at_mapUpdate; refine wpList_put _ rfl _ _ _ rfl Tryz.underlying9 Tryz.underlying120 rfl hf1 rfl hT _ rfl L HL.out hn ?_))
  intro w2 hf2 hg2 _
  have hd2 := hd1.grown hg2 (by simpa using hne)
  have hq2 := hq.grown hg2 (by simpa using hqf)
  have e1 : _ = some (Value.map (some mf)) := hq2.cell 1
  clear q0 q1
  go_wp2_with (at_delete; refine wpList_del _ rfl _ _ rfl Tryz.underlying9 Tryz.underlying120 rfl hf2 rfl hS ?_)
  intro w3 hf3 hg3 _
  have hd3 := hd2.grown hg3 (by simpa using hne)
  have hO : Own (two md mf) (two md mf) w w3 := ((Own.of_below hb1).trans (Own.of_grown hg2 (two_r _ _))).trans (Own.of_grown hg3 (two_r _ _))
  go_wp2_with fail
  go_end0
  exact ⟨rfl, hd3, hf3, hO⟩

set_option maxRecDepth 100000 in
set_option maxHeartbeats 4000000 in
theorem move_dir_calls (S T : ByteArray) (w : World) (hd : SM w md f) (hf : SM w mf g) (hne : md ≠ mf) (hfa : f S.data.toList = some (.int .i64 1)) (hST : ∀ s t : Txt, S.data.toList ++ [47] ++ s ≠ T.data.toList ++ [47] ++ t) (hg : ∀ x v, g x = some v → ∃ P, v = .pointer P) (hS : S.size ≤ 1073741824) (hT : T.size ≤ 1073741824)
    (L : List Txt) (hL : ∀ x, (g x).isSome = true → x ∈ L) (hn : L.length ≤ 1073741824) (hz : ∀ x ∈ L, x.length ≤ 1073741824) (LD : List Txt) (hLD : ∀ x, (f x).isSome = true → x ∈ LD) (hnD : LD.length ≤ 1073741824) :
    Calls Tryz.prog 114 #[.agg #[.map (some md), .map (some mf)], .string S, .string T] w fun e w' => ∃ bs : List Txt, bs.Nodup ∧ (∀ x, x ∈ bs ↔ (g (S.data.toList ++ [47] ++ x)).isSome = true) ∧ DoOut md mf (upd (upd f S.data.toList none) T.data.toList (some (.int .i64 1))) (mvF g S.data.toList T.data.toList bs) w e w' := by
  have hSm : S.size ≤ maxLen := by unfold maxLen; omega
  have hTm : T.size ≤ maxLen := by unfold maxLen; omega
  have hLD2 : ∀ x, (upd f S.data.toList none x).isSome = true → x ∈ LD := by
    intro x hx
    unfold upd at hx
    split at hx
    · cases hx
    · exact hLD x hx
  have HLD := Lib.hid hLD2
  have HL := Lib.hid hL
  have HZ := Lib.hid hz
  have HFA := Lib.hid hfa
  have HST := Lib.hid hST
  have HG := Lib.hid hg
  clear hL hfa hST hz hLD hLD2 hg
  go_enter Tryz.func114, Tryz.ntmps114
  go_upto_region 1 with fail
  obtain ⟨w1, hw1⟩ : ∃ x, w.alloc (.cells #[.map (some md), .map (some mf)] 122) = x := ⟨_, rfl⟩
  have hb1 : Below w.heap.size w w1 := by rw [← hw1]; exact (Below.refl _ _).alloc (Nat.le_refl _) _
  have hq : Blk w1 w.heap.size 122 #[.map (some md), .map (some mf)] := by rw [← hw1]; exact Blk.new _ _ _
  rw [hw1]
  obtain ⟨q, hqq⟩ : ∃ q, w.heap.size = q := ⟨_, rfl⟩
  have hqd : q ≠ md := by have := hd.lt; omega
  have hqf : q ≠ mf := by have := hf.lt; omega
  rw [hqq] at hq ⊢
  have q0 : _ = some (Value.map (some md)) := hq.cell 0
  have hd1 := hd.below hb1 hd.lt
  have hf1 := hf.below hb1 hf.lt
  clear hw1 hd hf hqq
  go_wp2_with (first
    | (at_lookup; refine wpList_look (T := 119) _ rfl _ _ rfl Tryz.underlying9 Tryz.underlying119 (zeroI _) rfl hd1 rfl hSm (.int .i64 1) (by rw [HFA.out]; rfl) ?_)
    | (at_delete; refine wpList_del _ rfl _ _ rfl Tryz.underlying9 Tryz.underlying119 rfl hd1 rfl hSm ?_))
  intro w2 hd2 hg2 _
  have hf2 := hf1.grown hg2 (by simpa using Ne.symm hne)
  have hq2 := hq.grown hg2 (by simpa using hqd)
  have e0 : _ = some (Value.map (some md)) := hq2.cell 0
  clear q0
  go_wp2_with (at_mapUpdate; refine wpList_put _ rfl _ _ _ rfl Tryz.underlying9 Tryz.underlying119 rfl hd2 rfl hTm _ rfl LD HLD.out (by unfold maxLen; omega) ?_)
  intro w3 hd3 hg3 _
  have hf3 := hf2.grown hg3 (by simpa using Ne.symm hne)
  have hq3 := hq2.grown hg3 (by simpa using hqd)
  have e0' : _ = some (Value.map (some md)) := hq3.cell 0
  have e1' : _ = some (Value.map (some mf)) := hq3.cell 1
  have hO3 : Own (two md mf) (two md mf) w w3 := ((Own.of_below hb1).trans (Own.of_grown hg2 (two_l _ _))).trans (Own.of_grown hg3 (two_l _ _))
  clear e0 hd1 hf1 hd2 hf2 hg2 hg3 hb1 hq hq2
  go_wp2_with fail
  refine (within_calls (some md) (some mf) mf rfl g S w3 hf3 L HL.out hn hS HZ.out).mono ?_
  rintro e w4 ⟨A, c, bs, rfl, hs, hc, hasc, hbs, hb4⟩
  have hnd : bs.Nodup := List.Pairwise.imp (fun {a b} h => by intro e; subst e; exact List.lt_irrefl _ h) hasc
  have hbl2 : ∀ x ∈ bs, x.length ≤ 1073741824 := by
    intro x hx
    have h1 := HZ.out _ (HL.out _ ((hbs x).1 hx))
    simp at h1
    omega
  have HBS := Lib.hid hbs
  have HND := Lib.hid hnd
  have HBL := Lib.hid hbl2
  have hd4 := hd3.below hb4 hd3.lt
  have hf4 := hf3.below hb4 hf3.lt
  have hq4 := hq3.below hb4 hq3.lt
  have hO4 := hO3.trans (Own.of_below hb4)
  obtain ⟨m, hm⟩ : ∃ m, bs.length = m := ⟨_, rfl⟩
  have HM := Lib.hid hm
  rw [hm] at hs hc ⊢
  have hml : m ≤ 1073741824 := by rw [← hm]; exact Nat.le_trans (out_len hnd fun x hx => HL.out _ ((hbs x).1 hx)) hn
  clear hbs hnd hbl2 hb4 hd3 hf3 hq3 e0' e1' hm hasc hO3
  go_wp2_with fail
  go_loopg [33] m (fun k s33 wr => ∃ i : Nat, i + k = m ∧ s33 = .int .i64 (i : Int) ∧ SM wr md (upd (upd f S.data.toList none) T.data.toList (some (.int .i64 1))) ∧ SM wr mf (mvF g S.data.toList T.data.toList (bs.take i)) ∧ Own (two md mf) (two md mf) w4 wr)
  case atStart => exact ⟨0, by omega, rfl, hd4, by simpa [mvF] using hf4, Own.refl _ _⟩
  case round =>
    obtain ⟨i, hig, rfl, hdr, hfr, hO⟩ := hrel
    have HIG := Lib.hid hig
    by_cases hi : i < m
    · have el : decide ((i : Int) < (m : Int)) = true := by simp; omega
      have el' : decide (i < m) = true := by simp; omega
      clear hig
      obtain ⟨bb, oo, rfl, hbb, hcell⟩ := hs.at_ hi
      have hil : i < bs.length := by have := HM.out; omega
      have hmt := mvF_take (f := g) (a := S.data.toList) (b := T.data.toList) hil
      have hmo := mvF_old (f := g) (a := S.data.toList) (b := T.data.toList) HND.out HST.out hil
      have hmk := mvF_keys (f := g) (a := S.data.toList) (b := T.data.toList) (bs := bs) (L := L) HND.out HST.out HL.out i
      have hmem : bs[i]! ∈ bs := by rw [getElem!_pos bs i hil]; exact List.getElem_mem _
      have hsz := HBL.out bs[i]! hmem
      have hsome := (HBS.out bs[i]!).1 hmem
      obtain ⟨s, hs'⟩ : ∃ s, bs[i]! = s := ⟨_, rfl⟩
      rw [hs'] at hcell hmt hmo hsz hsome
      obtain ⟨v, hv⟩ := Option.isSome_iff_exists.1 hsome
      obtain ⟨P, rfl⟩ := HG.out _ v hv
      rw [hv] at hmo
      rw [hmo] at hmt
      unfold txtV at hcell
      have k1 : (S ++ (⟨#[47]⟩ : ByteArray) ++ (⟨s.toArray⟩ : ByteArray)).size ≤ maxLen := by rw [cat_size]; unfold maxLen; omega
      have k2 : (T ++ (⟨#[47]⟩ : ByteArray) ++ (⟨s.toArray⟩ : ByteArray)).size ≤ maxLen := by rw [cat_size]; unfold maxLen; omega
      have hgk : mvF g S.data.toList T.data.toList (bs.take i) (S ++ (⟨#[47]⟩ : ByteArray) ++ (⟨s.toArray⟩ : ByteArray)).data.toList = some (.pointer P) := by rw [cat_bytes]; exact hmo
      obtain ⟨X, hX⟩ : ∃ X : ByteArray, (⟨s.toArray⟩ : ByteArray) = X := ⟨_, rfl⟩
      have b1 : S.data.toList ++ 47 :: X.data.toList = S.data.toList ++ [47] ++ s := by rw [← hX]; simp
      have b2 : T.data.toList ++ 47 :: X.data.toList = T.data.toList ++ [47] ++ s := by rw [← hX]; simp
      rw [hX] at hcell k1 k2 hgk
      have hXz : X.size ≤ 1073741824 := by rw [← hX, ← text_size3]; exact hsz
      have hbbne : two md mf bb = 0 := by
        apply two_ne
        · rintro rfl
          obtain ⟨D, ⟨es, clock, h1, _⟩, _⟩ := hd4
          simp [World.cell?, h1] at hcell
        · rintro rfl
          obtain ⟨D, ⟨es, clock, h1, _⟩, _⟩ := hf4
          simp [World.cell?, h1] at hcell
      have e1 := cell_own hO hcell hbbne
      have e3 : _ = some (Value.map (some mf)) := cell_own hO (hq4.cell 1) (two_ne hqd hqf)
      have hLn : (L ++ bs.map (fun s => T.data.toList ++ [47] ++ s)).length < maxLen := by rw [List.length_append, List.length_map, HM.out]; unfold maxLen; omega
      have HMT := Lib.hid hmt
      have B1 := Lib.hid b1
      have B2 := Lib.hid b2
      have HGK := Lib.hid hgk
      have HMK := Lib.hid hmk
      clear hmt hmo hmk b1 b2 hgk hs' hX hcell hv hsome hsz hmem hil
      go_wp2_with (first
        | (at_lookup; refine wpList_look (T := 120) _ rfl _ _ rfl Tryz.underlying9 Tryz.underlying120 (zeroFl _) rfl hfr rfl k1 (.pointer P) (by rw [HGK.out]; rfl) ?_)
        | (at_mapUpdate; refine wpList_put _ rfl _ _ _ rfl Tryz.underlying9 Tryz.underlying120 rfl hfr rfl k2 _ rfl _ HMK.out hLn ?_))
      intro w5 hf5 hg5 _
      rw [B2.out] at hf5
      have hd5 := hdr.grown hg5 (by simpa using hne)
      have hO5 := hO.trans (Own.of_grown hg5 (two_r md mf))
      have e4 : _ = some (Value.map (some mf)) := cell_own hO5 (hq4.cell 1) (two_ne hqd hqf)
      clear e3 e1
      go_wp2_with (at_delete; refine wpList_del _ rfl _ _ rfl Tryz.underlying9 Tryz.underlying120 rfl hf5 rfl k1 ?_)
      intro w6 hf6 hg6 _
      rw [B1.out, show T.data.toList ++ 47 :: s = T.data.toList ++ [47] ++ s by simp] at hf6
      have hd6 := hd5.grown hg6 (by simpa using hne)
      have hO6 := hO5.trans (Own.of_grown hg6 (two_r md mf))
      go_wp2_with fail
      go_roundg (gk - 1)
      case measure => have := HIG.out; omega
      case rel => exact ⟨i + 1, by have := HIG.out; omega, by go_num, hd6, by rw [HMT.out]; exact hf6, hO6⟩
    · have el : decide ((i : Int) < (m : Int)) = false := by simp; omega
      have el' : decide (i < m) = false := by simp; omega
      have htk : bs.take i = bs := List.take_of_length_le (by have := HM.out; omega)
      rw [htk] at hfr
      clear htk hig
      go_wp2_with fail
      go_end0
      exact ⟨bs, HND.out, HBS.out, rfl, hdr, hfr, hO4.trans hO⟩

set_option maxHeartbeats 1000000 in
theorem rename1_calls (b c : Nat) (S T : ByteArray) (w : World) (Q : Ending → World → Prop) (hb : w.cell? ⟨b, 0, none⟩ = some (.string S)) (hc : w.cell? ⟨c, 0, none⟩ = some (.string T))
    (hQ : ∀ w1, Below w.heap.size w w1 → Calls Tryz.prog 114 #[.agg #[.map (some md), .map (some mf)], .string S, .string T] w1 fun e w' => e = .returned (.tuple #[]) ∧ Q e w') :
    Calls Tryz.prog 113 #[.agg #[.map (some md), .map (some mf)], .pointer (some ⟨b, 0, none⟩), .pointer (some ⟨c, 0, none⟩)] w Q := by
  have HQ := Lib.hid hQ
  clear hQ
  go_enter Tryz.func113, Tryz.ntmps113
  go_upto_region 1 with fail
  obtain ⟨w1, hw1⟩ : ∃ x, w.alloc (.cells #[.map (some md), .map (some mf)] 122) = x := ⟨_, rfl⟩
  have hb1 : Below w.heap.size w w1 := by rw [← hw1]; exact (Below.refl _ _).alloc (Nat.le_refl _) _
  have hq : Blk w1 w.heap.size 122 #[.map (some md), .map (some mf)] := by rw [← hw1]; exact Blk.new _ _ _
  rw [hw1]
  obtain ⟨q, hqq⟩ : ∃ q, w.heap.size = q := ⟨_, rfl⟩
  have c1 := later hb1 hb
  have c2 := later hb1 hc
  have HB1 := Lib.hid hb1
  rw [hqq] at hq ⊢
  have q0 : _ = some (Value.map (some md)) := hq.cell 0
  have q1 : _ = some (Value.map (some mf)) := hq.cell 1
  clear hw1 hqq hb hc hb1
  go_wp2_with fail
  refine (HQ.out w1 HB1.out).mono ?_
  rintro e w2 ⟨rfl, hq2⟩
  have H2 := Lib.hid hq2
  clear hq2
  go_wp2_with fail
  go_end0
  exact H2.out
end
end Go.Proofs.YtfpgbhimgfdddaaGreatDoor

/- The walks of layer 3 (disk): every step, by what it does to what there is; names. -/
namespace Go.Proofs.YtfpgbhimgfdddaaGreatDoor
open Go.RowKit Go.Shelf Go.Maps Go.Sort
attribute [local go_sem ↓] Go.wp_at_zero Go.wp_at_succ
attribute [local go_sem] Later.cell Later.frozen

theorem nameB_len {s : Txt} (h : nameB s = true) : s.length ≤ 32 := by
  simp only [nameB, Bool.and_eq_true, decide_eq_true_eq] at h
  exact h.2
theorem pathB_len {s : Txt} (h : pathB s = true) : s.length ≤ 65 := by
  unfold pathB at h
  cases hs : slashAt s with
  | none => rw [hs] at h; have := nameB_len h; omega
  | some k =>
    rw [hs] at h
    simp only [Bool.and_eq_true] at h
    have h1 := nameB_len h.1
    have h2 := nameB_len h.2
    have := slashAt_lt2 hs
    rw [List.length_take] at h1
    rw [List.length_drop] at h2
    omega
theorem blk_map {w : World} {b m : Nat} {T : TypeId} {cs : Array Value} {f : Txt → Option Value} (h : Blk w b T cs) (k : SM w m f) : b ≠ m := by
  rintro rfl
  obtain ⟨D, ⟨es, clock, h1, _⟩, _⟩ := k
  unfold Blk at h
  rw [h] at h1
  cases h1
theorem tobytes (a : Txt) : (⟨a.toArray⟩ : ByteArray).data.toList = a := by simp
theorem tosize (a : Txt) : (⟨a.toArray⟩ : ByteArray).size = a.length := by rw [← text_size3]

section
variable {n : Nat} {l : List Th} {φ : List Nat} {md mf : Nat} {w : World} {R : Nat → Nat}
theorem dirF_in {x : Txt} (h : (dirF l x).isSome = true) : x ∈ l.map Th.path := by
  obtain ⟨y, hy, _, e⟩ := dirF_some.1 h
  exact List.mem_map.2 ⟨y, hy, e⟩
theorem filF_in {x : Txt} (h : (filF φ l x).isSome = true) : x ∈ l.map Th.path := by
  unfold filF at h
  cases hf : l.find? fun y => !y.dir && y.path == x with
  | none => rw [hf] at h; cases h
  | some y =>
    have h1 := List.find?_some hf
    simp only [Bool.and_eq_true, beq_iff_eq] at h1
    exact List.mem_map.2 ⟨y, List.mem_of_find?_eq_some hf, h1.2⟩
theorem paths_short (hw : TW n l) : ∀ x ∈ l.map Th.path, x.length ≤ 1073741824 := by
  intro x hx
  obtain ⟨y, hy, rfl⟩ := List.mem_map.1 hx
  have := pathB_len (hw.paths y hy)
  omega
theorem filF_ptr {x : Txt} {v : Value} (h : filF φ l x = some v) : ∃ P, v = .pointer P := by
  unfold filF at h
  cases hf : l.find? fun y => !y.dir && y.path == x with
  | none => rw [hf] at h; cases h
  | some y => rw [hf] at h; injection h with h; exact ⟨_, h.symm⟩
/-- Any step, by its function and what it has caught. -/
theorem do_calls (s : St) (F : Nat) (C : Array Value) (hw : TW n l) (hok : StOk n l s) (hl : l.length ≤ 1073741824) (hd : SM w md (dirF l)) (hf : SM w mf (filF φ l)) (hne : md ≠ mf) (hv : StepM w R φ s (.func (.func F) #[] C)) :
    Calls Tryz.prog F (#[.agg #[.map (some md), .map (some mf)]] ++ C) w (DoOut md mf (dirF (applyS l s)) (filF φ (applyS l s)) w) := by
  have hlm : (l.map Th.path).length ≤ 1073741824 := by rw [List.length_map]; exact hl
  have hmx : maxLen = 9223372036854775807 := rfl
  cases s with
  | mkdir a =>
    obtain ⟨b, e, h1, h2⟩ := hv
    injection e with e1 e2 e3
    injection e1 with e1
    subst e1 e3
    have hc : _ = some (Value.string ⟨a.toArray⟩) := h1.cell 0
    have ha := nameB_len hok.1
    have := mkdir1_calls (md := md) (mf := mf) b ⟨a.toArray⟩ w hd hf hne hc (by rw [tosize]; omega) (l.map Th.path) (fun x hx => dirF_in hx) (by omega)
    rw [tobytes] at this
    rw [dirF_mkdir, filF_mkdir]
    exact this
  | create a i =>
    obtain ⟨b, c, e, ⟨h1, h2⟩, h3, h4⟩ := hv
    injection e with e1 e2 e3
    injection e1 with e1
    subst e1 e3
    have hc : _ = some (Value.string ⟨a.toArray⟩) := h1.cell 0
    have hc2 : _ = some (fptr φ i) := h3.cell 0
    have ha := pathB_len hok.1
    have := create1_calls (md := md) (mf := mf) b c ⟨a.toArray⟩ _ w hd hf hne hc hc2 (by rw [tosize]; omega) (l.map Th.path) (fun x hx => filF_in hx) (by omega)
    rw [tobytes] at this
    rw [dirF_create, filF_create hok.2.2.1]
    exact this
  | remove a =>
    obtain ⟨b, e, h1, h2⟩ := hv
    injection e with e1 e2 e3
    injection e1 with e1
    subst e1 e3
    have hc : _ = some (Value.string ⟨a.toArray⟩) := h1.cell 0
    have ha := pathB_len hok.1
    have := remove1_calls (md := md) (mf := mf) b ⟨a.toArray⟩ w hd hf hne hc (blk_map h1 hd) (blk_map h1 hf) (by rw [tosize]; omega) (l.map Th.path) (fun x hx => filF_in hx) hlm (paths_short hw)
    rw [tobytes] at this
    refine this.mono ?_
    rintro e w' ⟨bs, _, hbs, hD⟩
    rw [dirF_remove hw, filF_rm hw hbs]
    exact hD
  | rename a b =>
    obtain ⟨b', c, e, ⟨h1, h2⟩, h3, h4⟩ := hv
    injection e with e1 e2 e3
    injection e1 with e1
    subst e1 e3
    have hc : _ = some (Value.string ⟨a.toArray⟩) := h1.cell 0
    have hc2 : _ = some (Value.string ⟨b.toArray⟩) := h3.cell 0
    have ha := pathB_len hok.1
    have hb := pathB_len hok.2.1
    refine rename1_calls (md := md) (mf := mf) b' c ⟨a.toArray⟩ ⟨b.toArray⟩ w _ hc hc2 ?_
    intro w1 hb1
    have hd1 := hd.below hb1 hd.lt
    have hf1 := hf.below hb1 hf.lt
    rcases isT_range l a with h0 | h0 | h0
    · exact absurd h0 hok.2.2.1
    · obtain ⟨v, hv⟩ := Option.isSome_iff_exists.1 ((filF_one (φ := φ) hw).2 h0)
      obtain ⟨P, rfl⟩ := filF_ptr hv
      have hda : dirF l a = none := by
        cases hda : dirF l a with
        | none => rfl
        | some u =>
          have := (dirF_two hw).1 (show (dirF l a).isSome = true by rw [hda]; rfl)
          omega
      have := move_file_calls (md := md) (mf := mf) ⟨a.toArray⟩ ⟨b.toArray⟩ P w1 hd1 hf1 hne (by rw [tobytes]; exact hda) (by rw [tobytes]; exact hv) (by rw [tosize]; omega) (by rw [tosize]; omega) (l.map Th.path) (fun x hx => filF_in hx) (by omega)
      rw [tobytes, tobytes] at this
      refine this.mono ?_
      rintro e w' ⟨k1, k2, k3, k4⟩
      refine ⟨k1, k1, ?_, ?_, (Own.of_below hb1).trans k4⟩
      · rw [dirF_ren_file hw hok h0]; exact k2
      · rw [filF_ren_file hw hok h0, hv]; exact k3
    · obtain ⟨v, hv⟩ := Option.isSome_iff_exists.1 ((dirF_two hw).2 h0)
      have hv1 := dirF_val hv
      subst hv1
      have hna : nameB a = true := by
        obtain ⟨z, hz, hzd, hzp⟩ := (isT_two hw.nodup).1 h0
        rw [← hzp]; exact hw.dirs z hz hzd
      have hnb := (hok.2.2.2.2.2.1 h0).1
      have hST : ∀ s t : Txt, a ++ [47] ++ s ≠ b ++ [47] ++ t := by
        intro s t e
        have k1 := slashAt_app s (nameB_slash hna)
        have k2 := slashAt_app t (nameB_slash hnb)
        rw [e, k2] at k1
        injection k1 with k1
        apply hok.2.2.2.2.2.2
        have k3 := congrArg (List.take b.length) e
        rw [List.append_assoc, List.append_assoc, List.take_left] at k3
        rw [← k3, k1, List.take_left]
      have := move_dir_calls (md := md) (mf := mf) ⟨a.toArray⟩ ⟨b.toArray⟩ w1 hd1 hf1 hne (by rw [tobytes]; exact hv) (by rw [tobytes, tobytes]; exact hST) (fun x v h => filF_ptr h) (by rw [tosize]; omega) (by rw [tosize]; omega) (l.map Th.path) (fun x hx => filF_in hx) hlm (paths_short hw) (l.map Th.path) (fun x hx => dirF_in hx) hlm
      rw [tobytes, tobytes] at this
      refine this.mono ?_
      rintro e w' ⟨bs, hnd, hbs, k1, k2, k3, k4⟩
      refine ⟨k1, k1, ?_, ?_, (Own.of_below hb1).trans k4⟩
      · rw [dirF_ren_dir hw hok h0]; exact k2
      · rw [filF_ren_dir hw hok h0 hnd hbs]; exact k3
end

/-! ### names -/
section
variable {B0 : Nat} {a : Nat → Addr} {R : Nat → Nat} {A : Adr} {d : Ds} {w w' : World}
/-- The maps of what there is have turned. -/
theorem CD.maps_only (h : CD B0 w R A d) {l : List Th} (ho : Own (two A.md A.mf) (two A.md A.mf) w w') (hd : SM w' A.md (dirF l)) (hf : SM w' A.mf (filF A.φ l)) : CD B0 w' R A { d with things := l } := by
  have key : ∀ k, R k ≠ 0 → R k ≠ 2 → R k ≠ 3 → w'.heap[k]? = w.heap[k]? ∧ R k = R k := fun k hk h2 h3 => ⟨ho.block k (h.inw k hk) (two_ne (fun e => h2 (by rw [e]; exact h.dirs.2)) (fun e => h3 (by rw [e]; exact h.files.2))), rfl⟩
  exact {
    blk := ((key A.p (by rw [h.rp]; omega) (by rw [h.rp]; omega) (by rw [h.rp]; omega)).1).trans h.blk
    rp := h.rp
    dirs := ⟨hd, h.dirs.2⟩
    files := ⟨hf, h.files.2⟩
    sdirs := h.sdirs.same fun k hk => key k (by omega) (by omega) (by omega)
    sfiles := h.sfiles.same fun k hk => key k (by omega) (by omega) (by omega)
    steps := h.steps.same fun k hk => key k (by omega) (by omega) (by omega)
    bytes := h.bytes.same fun k hk => key k (by omega) (by omega) (by omega)
    inw := h.inw.mono ho.size
    low := h.low }
theorem CD.md_mf (h : CD B0 w R A d) : A.md ≠ A.mf := by
  intro e
  have h1 := h.dirs.2
  have h2 := h.files.2
  rw [e] at h1
  omega
theorem Own.of_two (h : CD B0 w R A d) (ho : Own (two A.md A.mf) (two A.md A.mf) w w') : Own R R w w' :=
  ⟨ho.os, ho.tape, ho.output, ho.size, fun k hk hr => ho.block k hk (two_ne (fun e => by have := h.dirs.2; rw [← e] at this; omega) (fun e => by have := h.files.2; rw [← e] at this; omega)), fun _ _ => rfl⟩
/-- A row's block has the role r. -/
def rowR (R : Nat → Nat) (v : Value) (r : Nat) : Nat → Nat := fun k => if v.ownBlock = some k then r else R k
theorem rowR_old {v v' : Value} {r : Nat} (hv : ∀ g, v.ownBlock = some g → R g = r) (hat : v'.ownBlock = v.ownBlock ∨ ∃ g, v'.ownBlock = some g ∧ w.heap.size ≤ g) {k : Nat} (hk : k < w.heap.size) : rowR R v' r k = R k := by
  unfold rowR
  split
  · rename_i e
    rcases hat with h1 | ⟨g, h1, h2⟩
    · rw [h1] at e; exact (hv k e).symm
    · rw [h1] at e; injection e with e; omega
  · rfl
theorem info_func : (Tryz.prog.info? 145).map (fun i => (i.zero, i.size, i.bytes)) = some (some .nilFunc, 1, 8) := by kernel_rfl
end
end Go.Proofs.YtfpgbhimgfdddaaGreatDoor

/- The walks of layer 3 (disk): names. -/
namespace Go.Proofs.YtfpgbhimgfdddaaGreatDoor
open Go.RowKit Go.Shelf Go.Maps Go.Sort
attribute [local go_sem ↓] Go.wp_at_zero Go.wp_at_succ
attribute [local go_sem] Later.cell Later.frozen

section
variable {B0 : Nat} {a : Nat → Addr} {R : Nat → Nat} {A : Adr} {d : Ds} {w w' : World}
/-- A step more. -/
theorem CD.step_more (h : CD B0 w R A d) {s : St} {f v' : Value} {fs : List Value} {w2 : World} (hs : StepM w R A.φ s f) (hfs : fs.length = d.steps.length) (hall : ∀ (i : Nat) s f, d.steps[i]? = some s → fs[i]? = some f → StepM w R A.φ s f)
    (hv : ∀ g, A.sv.ownBlock = some g → R g = 7) (hg : w.grownBy w2 A.sv.ownBlock) (hrow : w2.ownsRow 0 145 1 v' (d.steps.length + 1) (fs ++ [f])) (hat : v'.ownBlock = A.sv.ownBlock ∨ ∃ g, v'.ownBlock = some g ∧ w.heap.size ≤ g) :
    CD B0 (w2.setCell ⟨A.p, 4, none⟩ v') (rowR R v' 7) { A with sv := v' } { d with steps := d.steps ++ [s] } ∧ Own R (rowR R v' 7) w (w2.setCell ⟨A.p, 4, none⟩ v') := by
  have hold : ∀ k, k < w.heap.size → rowR R v' 7 k = R k := fun k hk => rowR_old hv hat hk
  have hpl := Blk.lt h.blk
  have key : ∀ k, R k ≠ 0 → R k ≠ 1 → R k ≠ 7 → (w2.setCell ⟨A.p, 4, none⟩ v').heap[k]? = w.heap[k]? ∧ rowR R v' 7 k = R k := by
    intro k hk h1 h7
    have hkl := h.inw k hk
    refine ⟨(Below.heap_setCell _ _ _ k (fun e => h1 (by rw [e]; exact h.rp))).trans (hg.block k hkl (fun e => h7 (hv k e.symm))), hold k hkl⟩
  have hpv : v'.ownBlock ≠ some A.p := by
    intro e
    rcases hat with h1 | ⟨g, h1, h2⟩
    · rw [h1] at e
      have := hv _ e
      have := h.rp
      omega
    · rw [h1] at e
      injection e with e
      omega
  have hpS : some A.p ≠ A.sv.ownBlock := by
    intro e
    have := hv _ e.symm
    have := h.rp
    omega
  have hblk2 : Blk w2 A.p _ _ := Blk.grown h.blk hg hpS
  have hsz2 : (w2.setCell ⟨A.p, 4, none⟩ v').heap.size = w2.heap.size := by simp [World.setCell]
  refine ⟨{
    blk := hblk2.set_ 4 v'
    rp := (hold _ hpl).trans h.rp
    dirs := h.dirs.same fun k hk => key k (by omega) (by omega) (by omega)
    files := h.files.same fun k hk => key k (by omega) (by omega) (by omega)
    sdirs := h.sdirs.same fun k hk => key k (by omega) (by omega) (by omega)
    sfiles := h.sfiles.same fun k hk => key k (by omega) (by omega) (by omega)
    steps := ?_
    bytes := h.bytes.same fun k hk => key k (by omega) (by omega) (by omega)
    inw := ?_
    low := ?_ }, ?_⟩
  · refine ⟨fs ++ [f], ⟨?_, fun g hg' => by simp [rowR, hg']⟩, by simp [hfs], fun i s' f' hs' hf' => ?_⟩
    · rw [List.length_append]
      exact ownsRow_setCell_other hrow (a := ⟨A.p, 4, none⟩) hpv _
    · have k5 : ∀ k, R k = 5 → (w2.setCell ⟨A.p, 4, none⟩ v').heap[k]? = w.heap[k]? ∧ rowR R v' 7 k = R k := fun k hk => key k (by omega) (by omega) (by omega)
      rw [List.getElem?_append] at hs' hf'
      rw [hfs] at hf'
      split at hs'
      · rename_i hi
        rw [if_pos hi] at hf'
        exact (hall i s' f' hs' hf').same k5
      · rename_i hi
        rw [if_neg hi] at hf'
        have hi0 : i - d.steps.length = 0 := by
          apply Classical.byContradiction
          intro hne
          rw [List.getElem?_eq_none (by simp; omega)] at hs'
          cases hs'
        rw [hi0] at hs' hf'
        simp at hs' hf'
        subst hs' hf'
        exact hs.same k5
  · intro k hk
    rw [hsz2]
    unfold rowR at hk
    split at hk
    · rename_i e
      exact (hrow.lt k e).2
    · exact Nat.lt_of_lt_of_le (h.inw k hk) hg.size
  · intro k hk
    unfold rowR
    split
    · rename_i e
      rcases hat with h1 | ⟨g, h1, h2⟩
      · rw [h1] at e
        have := hv k e
        have := h.low k hk
        omega
      · rw [h1] at e
        injection e with e
        have h3 : k < w.heap.size ∨ w.heap.size ≤ k := by omega
        have hB : B0 ≤ w.heap.size ∨ w.heap.size < B0 := by omega
        rcases hB with hB | hB
        · omega
        · have := h.low A.p (by omega)
          have := h.rp
          omega
    · exact h.low k hk
  · refine ⟨hg.os, hg.tape, hg.output, by rw [hsz2]; exact hg.size, fun k hk hr => ?_, hold⟩
    exact (Below.heap_setCell _ _ _ k (fun e => by have e' : k = A.p := e; have := h.rp; rw [e'] at hr; omega)).trans (hg.block k hk (fun e => by have := hv k e.symm; omega))

theorem step_enters {φ : List Nat} {st : St} {F : Nat} {C : Array Value} (h : StepM w R φ st (.func (.func F) #[] C)) : ∀ (args : Array Value) (w : World), (callFunc F args).run Tryz.prog w = .ok (.enter F args) w := by
  cases st with
  | mkdir x =>
    obtain ⟨b, e, _⟩ := h
    injection e with e1 _ _
    injection e1 with e1
    subst e1
    exact enters_of Tryz.func124 (by kernel_rfl) rfl
  | create x i =>
    obtain ⟨b, c, e, _⟩ := h
    injection e with e1 _ _
    injection e1 with e1
    subst e1
    exact enters_of Tryz.func66 (by kernel_rfl) rfl
  | rename x y =>
    obtain ⟨b, c, e, _⟩ := h
    injection e with e1 _ _
    injection e1 with e1
    subst e1
    exact enters_of Tryz.func113 (by kernel_rfl) rfl
  | remove x =>
    obtain ⟨b, e, _⟩ := h
    injection e with e1 _ _
    injection e1 with e1
    subst e1
    exact enters_of Tryz.func115 (by kernel_rfl) rfl
def NamesOut (B0 : Nat) (a : Nat → Addr) (R : Nat → Nat) (A : Adr) (r : Nat × Ds) (op s : ByteArray) (w : World) (e : Ending) (w' : World) : Prop :=
  ∃ v R' A', e = .returned v ∧ ErrV a w' op s r.1 v ∧ CD B0 w' R' A' r.2 ∧ Own R R' w w' ∧ A'.p = A.p ∧ A'.φ = A.φ
set_option maxRecDepth 100000 in
set_option maxHeartbeats 4000000 in
theorem names_calls (op s : ByteArray) (st : St) (F : Nat) (C : Array Value) (w : World) (h : CD B0 w R A d) (hv : StepM w R A.φ st (.func (.func F) #[] C)) (hw : TW d.files.length d.things) (hok : StOk d.files.length d.things st) (hl : d.things.length ≤ 1073741824) (hsl : d.steps.length ≤ 1073741824)
    (haw : d.await ≤ 9223372036854775807) (hB : B0 ≤ w.heap.size) (hF : Fails B0 a w) :
    Calls Tryz.prog 65 #[.pointer (some ⟨A.p, 0, none⟩), .string op, .string s, .func (.func F) #[] C] w (NamesOut B0 a R A (namesD d st) op s w) := by
  obtain ⟨i0, hi0, hz0, hz1, hz2⟩ := info_parts info_func
  have HST := Lib.hid (step_calls op s w h haw hB hF)
  have HN := Lib.hid (rfl : namesD d st = namesD d st)
  obtain ⟨p, hp⟩ : ∃ p, A.p = p := ⟨_, rfl⟩
  have HP := Lib.hid hp
  rw [hp] at HST ⊢
  have HV := Lib.hid hv
  have HW := Lib.hid hw
  have HOK := Lib.hid hok
  have hbase := Lib.hid h
  clear hp hv hw hok h haw hF
  go_enter Tryz.func65, Tryz.ntmps65
  go_wp2_with fail
  refine HST.out.mono ?_
  rintro _ w1 ⟨v, rfl, hv1, hcd, hO, hfar⟩
  obtain ⟨k, d1, hk⟩ : ∃ k d1, stepD d = (k, d1) := ⟨_, _, rfl⟩
  rw [hk] at hv1 hcd
  have HK := Lib.hid hk
  clear hk HST
  cases k with
  | succ k =>
    obtain ⟨q, rfl, hq⟩ := hv1
    have hfin : NamesOut B0 a R A (namesD d st) op s w (.returned (.iface 68 (.pointer (some ⟨q, 0, none⟩)))) w1 := by
      have e1 : namesD d st = (k + 1, d1) := by unfold namesD; rw [HK.out]; simp
      rw [e1]
      exact ⟨_, R, A, rfl, ⟨q, rfl, hq⟩, hcd, hO, rfl, rfl⟩
    have HFIN := Lib.hid hfin
    clear hfin hcd hO hq
    go_wp2_with fail
    go_ret
    exact HFIN.out
  | zero =>
    obtain rfl : v = .nilIface := hv1
    have hd1 : d1.things = d.things ∧ d1.steps = d.steps ∧ d1.files = d.files := by
      have := HK.out
      unfold stepD at this
      repeat' split at this
      all_goals (injection this with t1 t2; subst t2; exact ⟨rfl, rfl, rfl⟩)
    have e1 : namesD d st = (0, { d1 with things := applyS d.things st, steps := d.steps ++ [st] }) := by unfold namesD; rw [HK.out]; simp
    have HE1 := Lib.hid e1
    have HD1 := Lib.hid hd1
    clear e1 hd1
    have hpp := HP.out
    have c0 : w1.cell? ⟨p, 0, none⟩ = some (.map (some A.md)) := by rw [← hpp]; exact Blk.cell hcd.blk 0
    have c1 : w1.cell? ⟨p, 1, none⟩ = some (.map (some A.mf)) := by rw [← hpp]; exact Blk.cell hcd.blk 1
    have hvs : StepM w1 R A.φ st (.func (.func F) #[] C) := by
      refine StepM.same HV.out fun k hk => ?_
      exact ⟨hfar k (hbase.out.inw k (by omega)) (fun e => by have := hbase.out.rp; rw [← e] at this; omega), rfl⟩
    have hdo := do_calls (R := R) st F C HW.out HOK.out hl (by rw [← HD1.out.1]; exact hcd.dirs.1) (by rw [← HD1.out.1]; exact hcd.files.1) hcd.md_mf hvs
    have HDO := Lib.hid hdo
    have hcell4 : w1.cell? ⟨p, 4, none⟩ = some A.sv := by rw [← hpp]; exact Blk.cell hcd.blk 4
    have HVS := Lib.hid hvs
    clear hdo hvs hfar
    have heg := step_enters HVS.out
    go_wp2_with fail
    refine HDO.out.mono ?_
    rintro _ w2 ⟨rfl, hd2, hf2, hO2⟩
    clear heg
    have hcd2 := hcd.maps_only hO2 hd2 hf2
    have hO2R := Own.of_two hcd hO2
    have hvs2 : StepM w2 R A.φ st (.func (.func F) #[] C) := HVS.out.same fun k hk => ⟨hO2.block k (hcd.inw k (by omega)) (two_ne (fun e => by have := hcd.dirs.2; rw [← e] at this; omega) (fun e => by have := hcd.files.2; rw [← e] at this; omega)), rfl⟩
    obtain ⟨fs, hrow, hfs, hall⟩ := hcd2.steps
    have hst1 : ({ d1 with things := applyS d.things st } : Ds).steps = d.steps := HD1.out.2.1
    rw [hst1] at hrow hfs hall
    obtain ⟨m, hm⟩ : ∃ m, d.steps.length = m := ⟨_, rfl⟩
    rw [hm] at hrow hsl
    obtain ⟨X, c, hsv, _, _, hmc⟩ := Elems.of_own (enc := fun v : Value => [v]) (xs := fs) (fun _ _ => rfl) (by simp) hrow.1 (by rw [hfs, hm])
    have c4 : w2.cell? ⟨p, 4, none⟩ = some (.slice X m c) := by rw [← hsv, ← hpp]; exact Blk.cell hcd2.blk 4
    have hrow' := hrow.1
    rw [hsv] at hrow'
    have hlt2 := Blk.lt hcd2.blk
    rw [hpp] at hlt2
    have HALL := Lib.hid hall
    have HFS := Lib.hid hfs
    have HM := Lib.hid hm
    have HSV := Lib.hid hsv
    have HROW2 := Lib.hid hrow.2
    have HVS2 := Lib.hid hvs2
    have HST1 := Lib.hid hst1
    have HCD2 := Lib.hid hcd2
    have HO12 := Lib.hid (hO.trans hO2R)
    have hPblk := hcd2.blk
    unfold DBlk at hPblk
    rw [hpp] at hPblk
    have hpS : some p ≠ (Value.slice X m c).ownBlock := by
      rw [← hsv]
      intro e
      have h1 := hrow.2 _ e.symm
      have h2 := hcd2.rp
      rw [hpp] at h2
      omega
    clear hall hfs hm hsv hrow hvs2 hst1 hcd2 hO2R hO2 hd2 hf2 hO hcd HDO hcell4 c0 c1 HVS
    go_wp2_with (at_builtin; refine wpList_append_own_at _ rfl _ _ 123 rfl 0 145 i0 .nilFunc 1 8 Tryz.underlying123 hi0 hz0 hz1 hz2 rfl (by decide) _ _ _ rfl (hrow'.alloc _) ⟨w2.heap.size, 0, none⟩ 1 1 [.func (.func F) #[] C] rfl rfl ?p1 ?p2 ?p3 ?p4 ?p5 ?_)
    case p1 => exact news_of_blk (l := [.func (.func F) #[] C]) (Blk.new w2 _ _)
    case p2 => intro u hu; rw [List.mem_singleton.1 hu]; rfl
    case p3 => unfold maxLen; omega
    case p4 => omega
    case p5 => exact Nat.zero_le _
    intro v' w3 hown' hgrow _ hat
    have hall2 : w2.grownBy w3 (Value.slice X m c).ownBlock := (World.grownBy_alloc w2 _ _).trans hgrow
    have hP3 := hPblk.grown hall2 hpS
    obtain ⟨X3, c3, rfl, _, _, _⟩ := Elems.of_own (enc := fun v : Value => [v]) (xs := fs ++ [.func (.func F) #[] C]) (fun _ _ => rfl) (by simp) hown' (by rw [List.length_append, HFS.out, HM.out]; rfl)
    have hat' : (Value.slice X3 (m + 1) c3).ownBlock = (Value.slice X m c).ownBlock ∨ ∃ g, (Value.slice X3 (m + 1) c3).ownBlock = some g ∧ w2.heap.size ≤ g := by
      rcases hat with h1 | h1
      · exact .inl h1
      · exact .inr ⟨_, h1, by simp⟩
    have hmore := CD.step_more HCD2.out (s := st) (f := .func (.func F) #[] C) (v' := .slice X3 (m + 1) c3) (fs := fs) (w2 := w3) HVS2.out (by rw [HST1.out]; exact HFS.out) (by rw [HST1.out]; exact HALL.out) HROW2.out (by rw [HSV.out]; exact hall2) (by rw [HST1.out, HM.out]; exact hown') (by rw [HSV.out]; exact hat')
    rw [hpp, HST1.out] at hmore
    obtain ⟨hc4, ho4⟩ := hmore
    have k4 : w3.cell? ⟨p, 4, none⟩ = some (Value.slice X m c) := by
      have := hP3.cell 4
      rw [HSV.out] at this
      exact this
    have g4 := hP3.frozen 4
    have HC4 := Lib.hid hc4
    have HO4 := Lib.hid (HO12.out.trans ho4)
    clear hc4 ho4 hown' hgrow hat hat' hall2 hP3 hPblk hrow' hpS
    go_wp2_with fail
    go_ret
    exact ⟨_, _, ⟨p, A.md, A.mf, A.sd, A.sf, .slice X3 (m + 1) c3, A.φ⟩, rfl, by rw [HE1.out]; rfl, by rw [HE1.out]; exact HC4.out, HO4.out, HP.out.symm, rfl⟩
end
end Go.Proofs.YtfpgbhimgfdddaaGreatDoor
