/- The walks of layer 5 (symbols): Len, Text, Number, Encode. -/
import Derived.Test.YtpmahljbkgielaaSymWalksA
namespace Go.Proofs.Ytpmahljbkgielaa
open Go.RowKit Go.Sort
attribute [local go_sem ↓] Go.wp_at_zero Go.wp_at_succ
attribute [local go_sem] Later.cell Later.frozen

set_option maxHeartbeats 400000 in
theorem all_calls (v : Value) (t : List Txt) (w : World) (h : TabAt w v t) :
    ∃ A c, Strs w A t.length t ∧ t.length ≤ c ∧ (∀ w', Below w.heap.size w w' → Calls Try.prog 34 #[v] w' fun e w'' => e = .returned (.slice A t.length c) ∧ w' = w'') ∧ (0 < t.length → ∃ p, v = .pointer (some ⟨p, 0, none⟩) ∧ Blk w p 62 #[.slice A t.length c]) := by
  obtain ⟨A, n, c, h1, h2, h3⟩ := h
  have hl := h2.len
  subst hl
  refine ⟨A, c, h2, h3, fun w' hb => ?_, fun h0 => ?_⟩
  · rcases h1 with ⟨rfl, rfl, hn, rfl⟩ | ⟨p, rfl, hp⟩
    · rw [hn]
      clear h2 h3 hn
      go_enter Try.func34, Try.ntmps34
      go_wp2_with fail
      go_ret
      exact ⟨rfl, rfl⟩
    · have hc : _ = some (Value.slice A t.length c) := (hp.below hb hp.lt).cell 0
      obtain ⟨n, hn⟩ : ∃ n, t.length = n := ⟨_, rfl⟩
      rw [hn] at hc ⊢
      clear h2 h3 hn hp
      go_enter Try.func34, Try.ntmps34
      go_wp2_with fail
      go_ret
      exact ⟨rfl, rfl⟩
  · rcases h1 with ⟨_, _, hn, _⟩ | ⟨p, hp, hb⟩
    · omega
    · exact ⟨p, hp, hb⟩

set_option maxHeartbeats 400000 in
theorem len_calls (v : Value) (t : List Txt) (w : World) (h : TabAt w v t) :
    Calls Try.prog 19 #[v] w fun e w' => e = .returned (.int .i64 t.length) ∧ w = w' := by
  obtain ⟨A, c, _, _, hall, _⟩ := all_calls v t w h
  have HA := Lib.hid (hall w (Below.refl _ _))
  obtain ⟨n, hn⟩ : ∃ n, t.length = n := ⟨_, rfl⟩
  rw [hn] at HA ⊢
  clear hall hn h
  go_enter Try.func19, Try.ntmps19
  go_wp2_with fail
  refine HA.out.mono ?_
  rintro e w' ⟨rfl, rfl⟩
  go_wp2_with fail
  go_ret
  exact ⟨rfl, rfl⟩

/-- The text with a number, and the error. -/
def textR (t : List Txt) (k : Int) : Txt × Nat := if k < 0 ∨ (t.length : Int) ≤ k then ([], 50) else (t[k.toNat]!, 0)
theorem tv_eq {a b : Txt} {x : Value} {c d : Nat} (h : (a, c) = (b, d)) : a = b ∧ c = d := by simpa using h

set_option maxHeartbeats 400000 in
theorem symtext_calls (v : Value) (t : List Txt) (k : Int) (w : World) (s : Txt) (e : Nat) (hr : textR t k = (s, e)) (h : TabAt w v t) :
    Calls Try.prog 11 #[v, .int .i64 k] w fun en w' => en = .returned (.tuple #[txtV s, .int .i64 e]) ∧ w = w' := by
  have hlen := len_calls v t w h
  have HLEN := Lib.hid hlen
  obtain ⟨A, c, hs, hc, _, htab⟩ := all_calls v t w h
  clear hlen h
  by_cases hk : k < 0
  · have ek : decide (k < 0) = true := by simpa using hk
    obtain ⟨rfl, rfl⟩ : [] = s ∧ 50 = e := by simpa [textR, hk] using hr
    clear hr
    unfold txtV
    go_enter Try.func11, Try.ntmps11
    go_wp2_with fail
    go_ret2
    exact ⟨rfl, rfl⟩
  · have ek : decide (k < 0) = false := by simpa using hk
    obtain ⟨j, rfl⟩ := Int.eq_ofNat_of_zero_le (Int.not_lt.1 hk)
    by_cases hj : j < t.length
    · have e2 : decide ((t.length : Int) ≤ (j : Int)) = false := by simp; omega
      have e2' : decide (t.length ≤ j) = false := by simp; omega
      obtain ⟨hs', rfl⟩ : t[j]! = s ∧ 0 = e := by
        have : ¬ ((j : Int) < 0 ∨ (t.length : Int) ≤ (j : Int)) := by omega
        rw [textR, if_neg this] at hr
        simpa using hr
      obtain ⟨p, rfl, hp⟩ := htab (by omega)
      obtain ⟨b, off, rfl, hbl, hcell⟩ := hs.at_ hj
      rw [hs'] at hcell
      have hc0 : _ = some (Value.slice (some ⟨b, off, none⟩) t.length c) := hp.cell 0
      obtain ⟨n, hn⟩ : ∃ n, t.length = n := ⟨_, rfl⟩
      rw [hn] at hc0 hj e2 e2' HLEN
      unfold txtV at hcell ⊢
      obtain ⟨S, hS⟩ : ∃ S : ByteArray, (⟨s.toArray⟩ : ByteArray) = S := ⟨_, rfl⟩
      rw [hS] at hcell ⊢
      clear hr hs' htab hs hn hS hk
      go_enter Try.func11, Try.ntmps11
      go_wp2_with fail
      refine HLEN.out.mono ?_
      rintro en w' ⟨rfl, rfl⟩
      go_wp2_with fail
      go_ret2
      exact ⟨rfl, rfl⟩
    · have e2 : decide ((t.length : Int) ≤ (j : Int)) = true := by simp; omega
      have e2' : decide (t.length ≤ j) = true := by simp; omega
      obtain ⟨rfl, rfl⟩ : [] = s ∧ 50 = e := by
        have : ((j : Int) < 0 ∨ (t.length : Int) ≤ (j : Int)) := by omega
        rw [textR, if_pos this] at hr
        simpa using hr
      obtain ⟨n, hn⟩ : ∃ n, t.length = n := ⟨_, rfl⟩
      rw [hn] at e2 e2' HLEN
      clear hr htab hs hn hk
      unfold txtV
      go_enter Try.func11, Try.ntmps11
      go_wp2_with fail
      refine HLEN.out.mono ?_
      rintro en w' ⟨rfl, rfl⟩
      go_wp2_with fail
      go_ret2
      exact ⟨rfl, rfl⟩

theorem bsearch_calls (t : List Txt) (A : Option Addr) (c : Nat) (s : ByteArray) (w : World) (hs : Strs w A t.length t) (hasc : Asc t) (hn : t.length * 16 ≤ 140737488351232) :
    Calls Try.prog 33 #[.slice A t.length c, .string s] w fun e w' => e = .returned (.tuple #[.int .i64 (below t s.data.toList : Nat), .bool (decide (t[below t s.data.toList]? = some s.data.toList))]) ∧ Below w.heap.size w w' := by
  by_cases h0 : t.length = 0
  · obtain rfl : t = [] := List.eq_nil_of_length_eq_zero h0
    refine (Any2.slices_BinarySearch_string_empty Try.laysBS A c s w).mono ?_
    rintro e w' ⟨rfl, rfl⟩
    exact ⟨rfl, Below.refl _ _⟩
  · obtain ⟨b, off, rfl, _, _⟩ := hs.2 (by omega)
    have hcon := Any2.slices_BinarySearch_string Try.laysBS b off t.length c (fun j => (⟨t[j]!.toArray⟩ : ByteArray)) s w (by omega) (fun j hj => by
      obtain ⟨b', off', e, _, hc⟩ := hs.at_ hj
      injection e with e
      injection e with e1 e2
      subst e1 e2
      exact hc)
    -- the halving over the table
    have hlt : ∀ i, i < t.length → Op.bytesLess (⟨t[i]!.toArray⟩ : ByteArray).toList s.toList = decide (t[i]! < s.data.toList) := by
      intro i _
      rw [bytesLess_eq, ByteArray.toList_eq, ByteArray.toList_eq]
    have key : Lib.bsGo (fun i => Op.bytesLess (⟨t[i]!.toArray⟩ : ByteArray).toList s.toList) t.length 0 t.length = below t s.data.toList := by
      have h1 := bs_below hasc s.data.toList (fun i => decide (i < t.length) && Op.bytesLess (⟨t[i]!.toArray⟩ : ByteArray).toList s.toList) (fun i hi => by rw [hlt i hi, getElem!_pos t i hi]; simp [hi]) (fun i hi => by simp; omega)
      rw [← h1]
      have key2 : ∀ f lo hi, hi ≤ t.length → Lib.bsGo (fun i => Op.bytesLess (⟨t[i]!.toArray⟩ : ByteArray).toList s.toList) f lo hi = Lib.bsGo (fun i => decide (i < t.length) && Op.bytesLess (⟨t[i]!.toArray⟩ : ByteArray).toList s.toList) f lo hi := by
        intro f
        induction f with
        | zero => intro lo hi _; rfl
        | succ f ih =>
          intro lo hi hh
          unfold Lib.bsGo
          split
          · rename_i hlh
            have hm : (lo + hi) / 2 < t.length := by omega
            simp only [hm, decide_true, Bool.true_and]
            split
            · exact ih _ _ hh
            · exact ih _ _ (by omega)
          · rfl
      exact key2 _ _ _ (Nat.le_refl _)
    rw [key] at hcon
    refine hcon.mono ?_
    rintro e w' ⟨rfl, q, rfl⟩
    refine ⟨?_, ⟨rfl, rfl, rfl, Nat.le_refl _, fun _ _ => rfl⟩⟩
    have hd : decide (below t s.data.toList < t.length ∧ (⟨t[below t s.data.toList]!.toArray⟩ : ByteArray) = s) = decide (t[below t s.data.toList]? = some s.data.toList) := by
      rw [decide_eq_decide]
      constructor
      · rintro ⟨h1, h2⟩
        rw [getElem!_pos t _ h1] at h2
        rw [List.getElem?_eq_getElem h1]
        have h3 := congrArg (fun x : ByteArray => x.data.toList) h2
        exact congrArg some h3
      · intro h
        obtain ⟨h1, h2⟩ := List.getElem?_eq_some_iff.1 h
        refine ⟨h1, ?_⟩
        rw [getElem!_pos t _ h1, h2]
    rw [hd]

set_option maxHeartbeats 400000 in
theorem number_calls (v : Value) (t : List Txt) (s : ByteArray) (w : World) (n e : Nat) (hr : numR t s.data.toList = (n, e)) (h : TabAt w v t) (hasc : Asc t) (hn : t.length * 16 ≤ 140737488351232) :
    Calls Try.prog 12 #[v, .string s] w fun en w' => en = .returned (.tuple #[.int .i64 n, .int .i64 e]) ∧ Below w.heap.size w w' := by
  obtain ⟨A, c, hs, _, hall, _⟩ := all_calls v t w h
  have hb := bsearch_calls t A c s w hs hasc hn
  have HA := Lib.hid (hall w (Below.refl _ _))
  obtain ⟨m, hm⟩ : ∃ m, t.length = m := ⟨_, rfl⟩
  obtain ⟨q, hq⟩ : ∃ q, below t s.data.toList = q := ⟨_, rfl⟩
  rw [numR, hq] at hr
  rw [hq] at hb
  by_cases hin : t[q]? = some s.data.toList
  · rw [if_pos hin] at hr
    obtain ⟨rfl, rfl⟩ : q = n ∧ 0 = e := by simpa using hr
    rw [decide_eq_true hin, hm] at hb
    rw [hm] at HA
    have HB := Lib.hid hb
    clear hall hb hr hs hm hin hq h
    go_enter Try.func12, Try.ntmps12
    go_wp2_with fail
    refine HA.out.mono ?_
    rintro en w' ⟨rfl, rfl⟩
    go_wp2_with fail
    refine HB.out.mono ?_
    rintro en w1 ⟨rfl, hb1⟩
    go_wp2_with fail
    go_ret2
    exact ⟨rfl, hb1⟩
  · rw [if_neg hin] at hr
    obtain ⟨rfl, rfl⟩ : 0 = n ∧ 50 = e := by simpa using hr
    rw [decide_eq_false hin, hm] at hb
    rw [hm] at HA
    have HB := Lib.hid hb
    clear hall hb hr hs hm hin hq h
    go_enter Try.func12, Try.ntmps12
    go_wp2_with fail
    refine HA.out.mono ?_
    rintro en w' ⟨rfl, rfl⟩
    go_wp2_with fail
    refine HB.out.mono ?_
    rintro en w1 ⟨rfl, hb1⟩
    go_wp2_with fail
    go_ret2
    exact ⟨rfl, hb1⟩

/-- The bytes of a table. -/
def tabT (t : List Txt) : List UInt8 := uintT t.length ++ t.flatMap textT

set_option maxRecDepth 100000 in
set_option maxHeartbeats 1000000 in
theorem symencode_calls (v : Value) (t : List Txt) (w : World) (h : TabAt w v t) (hn : t.length * 16 ≤ 140737488351232) (hz : (tabT t).length ≤ 140737488351232) :
    Calls Try.prog 20 #[v] w fun e w' => e = .returned (.string ⟨(tabT t).toArray⟩) ∧ Below w.heap.size w w' := by
  obtain ⟨A, c, hs, hc, hall, _⟩ := all_calls v t w h
  have HALL := Lib.hid hall
  have HZ := Lib.hid hz
  clear hall hz
  go_enter Try.func20, Try.ntmps20
  go_upto_region 2 with fail
  have hbd : Bld w.heap.size w.heap.size [] (w.alloc (.cells #[.pointer none, .slice none 0 0] 78)) := Bld.new w (Nat.le_refl _)
  have hB0 : Below w.heap.size w (w.alloc (.cells #[.pointer none, .slice none 0 0] 78)) := (Below.refl _ _).alloc (Nat.le_refl _) _
  obtain ⟨w0, hw0⟩ : ∃ x, w.alloc (.cells #[.pointer none, .slice none 0 0] 78) = x := ⟨_, rfl⟩
  obtain ⟨p, hp⟩ : ∃ p, w.heap.size = p := ⟨_, rfl⟩
  rw [hw0] at hbd hB0 ⊢
  have hlen := len_calls v t w0 (h.below hB0)
  have HLEN := Lib.hid hlen
  rw [hp] at hbd ⊢
  have HP := Lib.hid hp
  clear hw0 hlen hp
  have hl := hs.len
  obtain ⟨n, hn'⟩ : ∃ n, t.length = n := ⟨_, rfl⟩
  rw [hn'] at HLEN hs hc hn
  have hu := uint_calls n (by omega) w0
  have hlu := uintT_len n
  obtain ⟨U, hU⟩ : ∃ U : ByteArray, (⟨(uintT n).toArray⟩ : ByteArray) = U := ⟨_, rfl⟩
  have hUU : U.data.toList = uintT n := by rw [← hU]
  have hUz : U.size ≤ 11 := by rw [← text_size, hUU]; exact hlu.2
  rw [hU] at hu
  have HU := Lib.hid hu
  have HUU := Lib.hid hUU
  have HN := Lib.hid hn'
  clear hu hU hUU hlu hn' hl
  go_wp2_with fail
  refine HLEN.out.mono ?_
  rintro e w1 ⟨rfl, rfl⟩
  go_wp2_with fail
  refine HU.out.mono ?_
  rintro e w1 ⟨rfl, hb1⟩
  have hbd1 := hbd.below hb1
  have hB1 := then_ hB0 hb1
  have hps : p ≤ w1.heap.size := by have := hbd1.lt; omega
  go_wp2_with fail
  refine (wstring_calls p p [] U w1 hbd1 (by simp; omega) hps).mono ?_
  rintro e w2 ⟨rfl, hbd2, hw2, _⟩
  rw [List.nil_append, HUU.out] at hbd2
  have hB2 : Below w.heap.size w w2 := by rw [HP.out] at hB1 ⊢; exact hB1.trans hw2
  have hall2 := HALL.out w2 hB2
  rw [HN.out] at hall2
  have HA2 := Lib.hid hall2
  clear hall2 hbd hbd1 hw2 hb1 HALL
  go_wp2_with fail
  refine HA2.out.mono ?_
  rintro e w3 ⟨rfl, rfl⟩
  go_upto_block 0 with fail
  go_cut [] (fun wz => Bld p p (tabT t) wz ∧ Below w.heap.size w wz)
  case first =>
    go_wp2_with fail
    go_loopg [14] n (fun g s14 wr => ∃ i : Nat, i + g = n ∧ s14 = .int .i64 (i : Int) ∧ Bld p p (uintT n ++ (t.take i).flatMap textT) wr ∧ Below w.heap.size w wr)
    case atStart => exact ⟨0, by omega, rfl, by simpa using hbd2, hB2⟩
    case round =>
      obtain ⟨i, hig, rfl, hbd, hB⟩ := hrel
      have HIG := Lib.hid hig
      clear hig
      by_cases hi : i < n
      · have hil : i < t.length := by have := HN.out; omega
        have el : decide ((i : Int) < (n : Int)) = true := by simp; omega
        have el' : decide (i < n) = true := by simp; omega
        obtain ⟨b, off, rfl, hbl, hcell⟩ := hs.at_ hi
        have hc1 : wr.cell? ⟨b, off + i, none⟩ = some (txtV t[i]!) := (hB.cell (p := ⟨b, off + i, none⟩) hbl).trans hcell
        obtain ⟨x, hx⟩ : ∃ x, t[i]! = x := ⟨_, rfl⟩
        rw [hx] at hc1
        unfold txtV at hc1
        obtain ⟨X, hX⟩ : ∃ X : ByteArray, (⟨x.toArray⟩ : ByteArray) = X := ⟨_, rfl⟩
        rw [hX] at hc1
        have hXx : X.data.toList = x := by rw [← hX]
        have hnext : (uintT n ++ (t.take i).flatMap textT) ++ textT x = uintT n ++ (t.take (i + 1)).flatMap textT := by
          rw [List.take_succ_eq_append_getElem hil, ← getElem!_pos t i hil, hx, List.flatMap_append]
          simp
        have hpre : (uintT n ++ (t.take (i + 1)).flatMap textT).length ≤ 140737488351232 := by
          have h1 := HZ.out
          have h2 : t.flatMap textT = (t.take (i + 1)).flatMap textT ++ (t.drop (i + 1)).flatMap textT := by rw [← List.flatMap_append, List.take_append_drop]
          rw [tabT, HN.out, h2] at h1
          simp only [List.length_append] at h1 ⊢
          omega
        rw [← hnext, List.length_append] at hpre
        have hxl : x.length ≤ (textT x).length := by simp [textT]
        have hXz : X.size ≤ 140737488351232 := by rw [← text_size, hXx]; omega
        have htx := text_calls X hXz wr
        rw [hXx] at htx
        obtain ⟨T, hT⟩ : ∃ T : ByteArray, (⟨(textT x).toArray⟩ : ByteArray) = T := ⟨_, rfl⟩
        have hTt : T.data.toList = textT x := by rw [← hT]
        have hTz : T.size = (textT x).length := by rw [← text_size, hTt]
        rw [hT] at htx
        obtain ⟨P0, hP0⟩ : ∃ P, uintT n ++ (t.take i).flatMap textT = P := ⟨_, rfl⟩
        rw [hP0] at hbd hnext hpre
        have HTX := Lib.hid htx
        have HTT := Lib.hid hTt
        have HTZ := Lib.hid hTz
        have HNX := Lib.hid hnext
        clear htx hTt hTz hT hnext hP0 hx hX hXx hcell
        go_wp2_with fail
        refine HTX.out.mono ?_
        rintro e v1 ⟨rfl, hb1⟩
        have hbd1 := hbd.below hb1
        have hB1 := then_ hB hb1
        go_wp2_with fail
        refine (wstring_calls p p P0 T v1 hbd1 (by have := HTZ.out; omega) (by have := hbd1.lt; omega)).mono ?_
        rintro e v2 ⟨rfl, hbd2', hw2, _⟩
        rw [HTT.out, HNX.out] at hbd2'
        go_wp2_with fail
        go_roundg (gk - 1)
        case measure => have := HIG.out; omega
        case rel => exact ⟨i + 1, by have := HIG.out; omega, by go_num, hbd2', by rw [HP.out] at hB1 ⊢; exact hB1.trans hw2⟩
      · have el : decide ((i : Int) < (n : Int)) = false := by simp; omega
        have el' : decide (i < n) = false := by simp; omega
        have hfin : uintT n ++ (t.take i).flatMap textT = tabT t := by
          have := HN.out
          rw [List.take_of_length_le (by omega), tabT, this]
        rw [hfin] at hbd
        clear hfin
        go_wp2_with fail
        go_meet
        exact ⟨hbd, hB⟩
  case rest =>
    obtain ⟨hbd, hB⟩ := hcut
    obtain ⟨w6, rfl⟩ : ∃ x, x = wc := ⟨_, rfl⟩
    go_wp2_with fail
    refine (bstring_calls p p _ w6 hbd (by have := hbd.lt; omega)).mono ?_
    rintro e w7 ⟨rfl, hw7⟩
    go_wp2_with fail
    go_ret
    refine ⟨rfl, ?_⟩
    rw [HP.out] at hB ⊢
    exact hB.trans hw7
end Go.Proofs.Ytpmahljbkgielaa
