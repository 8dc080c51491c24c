/- The walks of layer 4 (labels): Make. -/
import Derived.Test.YtpmahljbkgielaaLabWalksA
import Derived.Test.YtpmahljbkgielaaShelf
namespace Go.Proofs.Ytpmahljbkgielaa
open Go.RowKit Go.Sort
attribute [local go_sem ↓] Go.wp_at_zero Go.wp_at_succ
attribute [local go_sem] Later.cell Later.frozen

/-- A label's two cells. -/
def encLb (x : Lb) : List Value := [.string ⟨x.n.toArray⟩, .string ⟨x.v.toArray⟩]

set_option maxHeartbeats 400000 in
theorem byname_calls (x y : Lb) (W : World) :
    Calls Try.prog 53 #[.agg (encLb x).toArray, .agg (encLb y).toArray] W fun e w' => e = .returned (.int .i64 (Lib.compareBytes x.n y.n)) ∧ ∃ q os', w' = grow (W.drewN q) os' := by
  obtain ⟨xn, xv⟩ := x
  obtain ⟨yn, yv⟩ := y
  have hcon := fun W' => Try.strings_Compare ⟨xn.toArray⟩ ⟨yn.toArray⟩ W'
  simp only [List.toList_toArray] at hcon
  obtain ⟨r, hr⟩ : ∃ r, Lib.compareBytes xn yn = r := ⟨_, rfl⟩
  simp only [hr] at hcon ⊢
  have HC := Lib.hid hcon
  clear hcon hr
  unfold encLb
  obtain ⟨X, hX⟩ : ∃ X : ByteArray, (⟨xn.toArray⟩ : ByteArray) = X := ⟨_, rfl⟩
  obtain ⟨Y, hY⟩ : ∃ X : ByteArray, (⟨yn.toArray⟩ : ByteArray) = X := ⟨_, rfl⟩
  simp only [hX, hY] at HC ⊢
  clear hX hY
  go_enter Try.func53, Try.ntmps53
  go_wp2_with fail
  refine (HC.out _).mono ?_
  rintro e w' ⟨rfl, rfl⟩
  go_wp2_with fail
  go_ret
  exact ⟨rfl, 0, _, by rw [alloc_eq_grow, alloc_eq_grow, grow_grow]; rfl⟩

set_option maxHeartbeats 400000 in
theorem make1_calls (nm : Txt) (p : Nat) (w : World) (hp : w.cell? ⟨p, 0, none⟩ = some (.string ⟨nm.toArray⟩)) :
    PredBelow Try.prog 73 #[.pointer (some ⟨p, 0, none⟩)] (fun x => .agg (encLb x).toArray) (fun x => x.n == nm) w := by
  intro W x hb
  have hp' := later hb hp
  obtain ⟨xn, xv⟩ := x
  have hfin : ((⟨xn.toArray⟩ : ByteArray).toList == (⟨nm.toArray⟩ : ByteArray).toList) = (xn == nm) := by rw [ByteArray.toList_eq, ByteArray.toList_eq]
  obtain ⟨r, hr⟩ : ∃ r, (xn == nm) = r := ⟨_, rfl⟩
  rw [hr] at hfin
  simp only [hr]
  unfold encLb
  obtain ⟨X, hX⟩ : ∃ X : ByteArray, (⟨xn.toArray⟩ : ByteArray) = X := ⟨_, rfl⟩
  obtain ⟨Y, hY⟩ : ∃ X : ByteArray, (⟨nm.toArray⟩ : ByteArray) = X := ⟨_, rfl⟩
  rw [hX, hY] at hfin
  rw [hY] at hp'
  simp only [hX]
  clear hX hY hr hp
  have hpl : p < W.heap.size := lt_of_cell hp'
  show Calls Try.prog 73 #[.agg #[.string X, .string ⟨xv.toArray⟩], .pointer (some ⟨p, 0, none⟩)] W _
  go_enter Try.func73, Try.ntmps73
  go_wp2_with fail
  go_ret
  exact ⟨rfl, hb.alloc hb.size _⟩

theorem grown_sortK {α : Type} [Inhabited α] (enc : α → List Value) (k : Nat) (w : World) (blk off n : Nat) (d : Array α) (os : Array Obj) : w.grownBy (sortWorldK enc k w blk off n d os) (some blk) := by
  refine ⟨rfl, rfl, rfl, ?_, ?_⟩
  · simp [sortWorldK, grow, putRowK, putRow, mapBlock, Sort.ahead]
  · intro j hj hne
    have hb : ¬ blk = j := fun e => hne (by rw [e])
    simp only [sortWorldK, grow, putRowK, putRow, mapBlock, Sort.ahead]
    rw [Array.getElem?_append_left (by simpa using hj), Array.getElem?_modify, if_neg hb]

theorem info_lab : (Try.prog.info? 69).map (fun i => (i.zero, i.size, i.bytes)) = some (some (.agg #[.string ⟨#[]⟩, .string ⟨#[]⟩]), 2, 32) := by kernel_rfl
theorem encLb_len (x : Lb) : (encLb x).length = 2 := rfl
theorem encLb_one (x : Lb) : ∀ v ∈ encLb x, v.oneCell' = true := by
  intro v hv
  simp [encLb] at hv
  rcases hv with rfl | rfl <;> rfl
theorem flat_len (l : List Lb) : (l.flatMap encLb).length = l.length * 2 := by
  induction l with
  | nil => rfl
  | cons x l ih => rw [List.flatMap_cons, List.length_append, ih, encLb_len, List.length_cons]; omega
theorem flat_get : ∀ (l : List Lb) (t : Nat), t < l.length * 2 → (l.flatMap encLb)[t]? = (encLb l[t / 2]!)[t % 2]?
  | [], t, h => by simp at h
  | x :: l, t, h => by
    rw [List.flatMap_cons]
    by_cases h2 : t < 2
    · rw [List.getElem?_append_left (by rw [encLb_len]; exact h2), show t / 2 = 0 by omega, show t % 2 = t by omega]
      simp
    · rw [List.getElem?_append_right (by rw [encLb_len]; omega), encLb_len, flat_get l (t - 2) (by simp at h; omega), show (t - 2) / 2 = t / 2 - 1 by omega, show (t - 2) % 2 = t % 2 by omega]
      congr 2
      obtain ⟨m, hm⟩ : ∃ m, t / 2 = m + 1 := ⟨t / 2 - 1, by omega⟩
      rw [hm]
      simp
/-- The cells of a list of labels, one by one. -/
theorem labs_cells {w : World} {B b off n : Nat} {l : List Lb} (h : Elems w B 2 encLb (some ⟨b, off, none⟩) n l) (hn : 0 < n) : ∀ t, t < l.length * 2 → w.cell? ⟨b, off + t, none⟩ = (l.flatMap encLb)[t]? := by
  intro t ht
  obtain ⟨b', off', e, _, hc⟩ := h.2 hn
  injection e with e
  injection e with e1 e2
  subst e1 e2
  rw [flat_get l t ht]
  have hl : t / 2 < l.length := by omega
  have h1 : l[t / 2]? = some l[t / 2]! := by rw [getElem!_pos l _ hl, List.getElem?_eq_getElem hl]
  have h2 : t % 2 < (encLb l[t / 2]!).length := by rw [encLb_len]; omega
  have := hc (t / 2) _ h1 (t % 2) _ (List.getElem?_eq_getElem h2)
  rw [List.getElem?_eq_getElem h2, ← this]
  congr 2
  omega

theorem clonelab_calls (l : List Lb) (b off n c : Nat) (w : World) (h : Elems w w.heap.size 2 encLb (some ⟨b, off, none⟩) n l) (hn : 0 < n) (hn8 : n ≤ 8) :
    Calls Try.prog 74 #[.slice (some ⟨b, off, none⟩) n c] w fun e w' => ∃ g cap, e = .returned (.slice (some ⟨g, 0, none⟩) n cap) ∧ w'.ownsRow w.heap.size 69 2 (.slice (some ⟨g, 0, none⟩) n cap) n (l.flatMap encLb) ∧ Below w.heap.size w w' := by
  obtain ⟨i0, hi0, hz0, hz1, hz2⟩ := info_parts info_lab
  have hl := h.len
  have hcon := AnyE.slices_Clone Try.laysCL i0 _ 2 32 hi0 hz0 hz1 hz2 rfl (by omega) Try.sizeOf69 b off n c (l.flatMap encLb) w (by rw [flat_len, hl]) (by unfold maxLen; omega) (by omega)
    (fun j u hu => by
      have hj := (List.getElem?_eq_some_iff.1 hu).1
      rw [flat_len] at hj
      rw [labs_cells h hn j hj]; exact hu)
    (fun u hu => by
      obtain ⟨x, _, hx⟩ := List.mem_flatMap.1 hu
      exact encLb_one x u hx)
  refine hcon.mono ?_
  rintro e w' ⟨v', rfl, hown, hne, hb⟩
  rcases hown.2 with ⟨rfl, _⟩ | ⟨g, cap, cur, rfl, h1⟩
  · exact absurd rfl hne
  · exact ⟨g, cap, rfl, hown, hb⟩

theorem bitlen_calls (n : Nat) (W : World) (h : n ≤ 12) : Calls Try.prog 60 #[.int .u64 n] W fun e w' => (∃ l : Int, e = .returned (.int .i64 l)) ∧ w' = W :=
  (Try.bits_Len n W (by omega) (by omega)).mono fun _ _ ⟨he, hw⟩ => ⟨⟨_, he⟩, hw⟩
theorem sortlab_calls (l : List Lb) (g cap n B : Nat) (w : World) (hown : w.ownsRow B 69 2 (.slice (some ⟨g, 0, none⟩) n cap) n (l.flatMap encLb)) (hl : l.length = n) (hn8 : n ≤ 8) :
    Calls Try.prog 75 #[.slice (some ⟨g, 0, none⟩) n cap, .func (.func 53) #[] #[]] w fun e w' => e = .returned (.tuple #[]) ∧ w.grownBy w' (some g) := by
  have hlt := hown.lt g rfl
  rcases hown.2 with ⟨he, _⟩ | ⟨g', cap', cur, he, h1, h2, h3, h4, h5, h6⟩
  · cases he
  · injection he with he _ _
    injection he with he
    injection he with he _ _
    subst he
    have hH : HoldsK encLb 2 w g 0 l.toArray := by
      intro t ht
      rw [size_flatK] at ht
      have ht' : t < l.length * 2 := by simpa using ht
      refine ⟨?_, by simp [World.frozen?, h2]⟩
      rw [get_flatK _ _ _ _ ht, Nat.zero_add, cell_of_row w g t cur _ (0, 0) h2]
      have e1 : cur[t]? = (l.flatMap encLb)[t]? := by
        rw [← h6, List.getElem?_take_of_lt (by omega)]; simp
      rw [e1, flat_get l t ht']
      have h2' : t % 2 < (encLb l[t / 2]!).length := by rw [encLb_len]; omega
      simp only [List.getElem!_toArray, id]
      rw [getElem!_pos (encLb l[t / 2]!) (t % 2) h2', List.getElem?_eq_getElem h2']
    have eg : ∀ args w, (callFunc 53 args).run Try.prog w = .ok (.enter 53 args) w := enters_of Try.func53 (by kernel_rfl) rfl
    have hcon := AnyQ.slices_SortFunc_small Try.laysSFL 2 Try.isAgg69 Try.sizeOf69 encLb encLb_len encLb_one (fun x y => Lib.compareBytes x.n y.n) 53 #[] g 0 cap l.toArray w eg (fun _ _ _ _ x y => byname_calls x y _) hH hlt.2 (by simp; omega) bitlen_calls
    simp only [List.size_toArray, hl] at hcon
    refine hcon.mono ?_
    rintro e w' ⟨rfl, m, os, rfl⟩
    exact ⟨rfl, grown_sortK _ _ _ _ _ _ _ _⟩

theorem containslab_calls (l : List Lb) (nm : Txt) (b off i c p : Nat) (w : World) (r : Bool) (hr : (l.take i).any (fun x => x.n == nm) = r) (hi : i ≤ l.length) (hl8 : l.length ≤ 8) (hb : b < w.heap.size) (hp : w.cell? ⟨p, 0, none⟩ = some (.string ⟨nm.toArray⟩))
    (hc : ∀ t, t < l.length * 2 → w.cell? ⟨b, off + t, none⟩ = (l.flatMap encLb)[t]?) :
    Calls Try.prog 72 #[.slice (some ⟨b, off, none⟩) i c, .func (.func 73) #[] #[.pointer (some ⟨p, 0, none⟩)]] w fun e w' => e = .returned (.bool r) ∧ Below w.heap.size w w' := by
  have eg : ∀ args w, (callFunc 73 args).run Try.prog w = .ok (.enter 73 args) w := enters_of Try.func73 (by kernel_rfl) rfl
  have hcon := AnyQ.slices_ContainsFunc Try.laysCFL 2 Try.isAgg69 Try.sizeOf69 encLb encLb_len (fun x => x.n == nm) 73 #[.pointer (some ⟨p, 0, none⟩)] eg b off i c l w (make1_calls nm p w hp) hi (by omega) hb
    (fun j hj k v hv => by
      have hk : k < 2 := by have := (List.getElem?_eq_some_iff.1 hv).1; rw [encLb_len] at this; exact this
      have := hc (j * 2 + k) (by omega)
      rw [flat_get l (j * 2 + k) (by omega), show (j * 2 + k) / 2 = j by omega, show (j * 2 + k) % 2 = k by omega, hv] at this
      rw [← this]
      congr 2
      omega)
  rw [hr] at hcon
  exact hcon

def MakeOut (w : World) (c : Nat) (e : Ending) (w' : World) : Prop := (∃ v, e = .returned (.tuple #[v, .int .i64 (c : Nat)])) ∧ Below w.heap.size w w'

set_option maxRecDepth 100000 in
set_option maxHeartbeats 1000000 in
theorem make_calls (l : List Lb) (A : Option Addr) (n c : Nat) (w : World) (hE : Elems w w.heap.size 2 encLb A n l) (hnc : n ≤ c) (hnm : n ≤ 140737488351232) (hz : ∀ x ∈ l, x.n.length ≤ 140737488351232 ∧ x.v.length ≤ 140737488351232) :
    Calls Try.prog 47 #[.slice A n c] w (MakeOut w (makeErr l)) := by
  have hl := hE.len
  by_cases h0 : n = 0
  · subst h0
    have hm : makeErr l = 43 := by rw [makeErr, if_pos hl]
    rw [hm]
    clear hm
    go_enter Try.func47, Try.ntmps47
    go_wp2_with fail
    go_ret2
    exact ⟨⟨_, rfl⟩, Below.refl _ _⟩
  · have e0 : ((n : Int) == 0) = false := by rw [beq_eq_false_iff_ne]; omega
    by_cases h8 : 8 < n
    · have hm : makeErr l = 44 := by rw [makeErr, if_neg (by omega), if_pos (by omega)]
      rw [hm]
      have e8 : decide ((8 : Int) < (n : Int)) = true := by simp; omega
      clear hm
      go_enter Try.func47, Try.ntmps47
      go_wp2_with fail
      go_ret2
      exact ⟨⟨_, rfl⟩, Below.refl _ _⟩
    · have e8 : decide ((8 : Int) < (n : Int)) = false := by simp; omega
      obtain ⟨R, hR⟩ : ∃ R, scanErr [] l = R := ⟨_, rfl⟩
      have hm : makeErr l = R := by rw [makeErr, if_neg (by omega), if_neg (by omega), hR]
      rw [hm]
      obtain ⟨b, off, rfl, hbl, _⟩ := hE.2 (by omega)
      have hcells := labs_cells hE (by omega)
      have HC := Lib.hid hcells
      have HR := Lib.hid hR
      have HZ := Lib.hid hz
      have HLEN := Lib.hid hl
      have hn0 : 0 < n := by omega
      clear hm hR hz hcells hl h0
      go_enter Try.func47, Try.ntmps47
      go_upto_block 1 with fail
      clear e0 e8
      go_cut [] (fun wz => Below w.heap.size w wz ∧ R = 0)
      case first =>
        go_wp2_with fail
        go_loopg [17] n (fun g s17 wr => ∃ i : Nat, i + g = n ∧ s17 = .int .i64 (i : Int) ∧ scanErr (l.take i) (l.drop i) = R ∧ Below w.heap.size w wr)
        case atStart => exact ⟨0, by omega, rfl, by simpa using HR.out, Below.refl _ _⟩
        case round =>
          obtain ⟨i, hig, rfl, hsc, hB⟩ := hrel
          have HIG := Lib.hid hig
          have HSC := Lib.hid hsc
          clear hig hsc
          by_cases hi : i < n
          · have el : decide ((i : Int) < (n : Int)) = true := by simp; omega
            have el' : decide (i < n) = true := by simp; omega
            have hil : i < l.length := by have := HLEN.out; omega
            obtain ⟨x, hx⟩ : ∃ x, l[i] = x := ⟨_, rfl⟩
            have hxm : x ∈ l := by rw [← hx]; exact List.getElem_mem hil
            have hxz := HZ.out x hxm
            have hsc := HSC.out
            rw [List.drop_eq_getElem_cons hil, hx, scanErr] at hsc
            have hx0 : (l.flatMap encLb)[i * 2]? = some (.string ⟨x.n.toArray⟩) := by
              rw [flat_get l _ (by omega), show i * 2 / 2 = i by omega, show i * 2 % 2 = 0 by omega, getElem!_pos l i hil, hx]; rfl
            have hx1 : (l.flatMap encLb)[i * 2 + 1]? = some (.string ⟨x.v.toArray⟩) := by
              rw [flat_get l _ (by omega), show (i * 2 + 1) / 2 = i by omega, show (i * 2 + 1) % 2 = 1 by omega, getElem!_pos l i hil, hx]; rfl
            have c0 : wr.cell? ⟨b, off + i * 2, none⟩ = some (.string ⟨x.n.toArray⟩) := ((hB.cell (p := ⟨b, off + i * 2, none⟩) hbl).trans (HC.out _ (by omega))).trans hx0
            have c1 : wr.cell? ⟨b, off + i * 2 + 1, none⟩ = some (.string ⟨x.v.toArray⟩) := ((hB.cell (p := ⟨b, off + i * 2 + 1, none⟩) hbl).trans (HC.out (i * 2 + 1) (by omega))).trans hx1
            obtain ⟨N, hN⟩ : ∃ N : ByteArray, (⟨x.n.toArray⟩ : ByteArray) = N := ⟨_, rfl⟩
            obtain ⟨V, hV⟩ : ∃ N : ByteArray, (⟨x.v.toArray⟩ : ByteArray) = N := ⟨_, rfl⟩
            rw [hN] at c0
            rw [hV] at c1
            have hNn : N.data.toList = x.n := by rw [← hN]
            have hVv : V.data.toList = x.v := by rw [← hV]
            have hNz : N.size ≤ 140737488351232 := by rw [← text_size, hNn]; exact hxz.1
            have hVz : V.size ≤ 140737488351232 := by rw [← text_size, hVv]; exact hxz.2
            have HSC2 := Lib.hid hsc
            have HN := Lib.hid hN
            have HNn := Lib.hid hNn
            have HVv := Lib.hid hVv
            have HX := Lib.hid hx
            clear hsc hx0 hx1 hx hN hV hNn hVv hxz hxm
            go_upto_region 8 with fail
            have hq : Blk (wr.alloc (.cells #[.string N, .string V] 69)) wr.heap.size 69 #[.string N, .string V] := Blk.new _ _ _
            have hB1 : Below w.heap.size w (wr.alloc (.cells #[.string N, .string V] 69)) := hB.alloc hB.size _
            obtain ⟨w1, hw1⟩ : ∃ w1, wr.alloc (.cells #[.string N, .string V] 69) = w1 := ⟨_, rfl⟩
            obtain ⟨p, hp⟩ : ∃ p, wr.heap.size = p := ⟨_, rfl⟩
            rw [hw1] at hq hB1 ⊢
            rw [hp] at hq ⊢
            clear hw1 hp c0 c1 hB
            have q0 : _ = some (Value.string N) := hq.cell 0
            have q1 : _ = some (Value.string V) := hq.cell 1
            obtain ⟨rn, hrn⟩ : ∃ r, fitN x.n = r := ⟨_, rfl⟩
            obtain ⟨rv, hrv⟩ : ∃ r, fitV x.v = r := ⟨_, rfl⟩
            obtain ⟨ra, hra⟩ : ∃ r, (l.take i).any (fun y => y.n == x.n) = r := ⟨_, rfl⟩
            have hsc := HSC2.out
            rw [hrn, hrv, hra] at hsc
            have HSC3 := Lib.hid hsc
            have HRN := Lib.hid (show fitN N.data.toList = rn by rw [HNn.out, hrn])
            have HRV := Lib.hid (show fitV V.data.toList = rv by rw [HVv.out, hrv])
            have HRA := Lib.hid hra
            clear hsc HSC2 hrn hrv hra
            go_wp2_with fail
            refine (fitname_calls N rn HRN.out hNz w1).mono ?_
            rintro e w2 ⟨rfl, rfl⟩
            cases rn with
            | false =>
              obtain rfl : 40 = R := by have := HSC3.out; simpa using this
              go_wp2_with fail
              go_ret2
              exact ⟨⟨_, rfl⟩, hB1⟩
            | true =>
              go_wp2_with fail
              refine (fitvalue_calls V rv HRV.out hVz w1).mono ?_
              rintro e w2 ⟨rfl, rfl⟩
              cases rv with
              | false =>
                obtain rfl : 41 = R := by have := HSC3.out; simpa using this
                go_wp2_with fail
                go_ret2
                exact ⟨⟨_, rfl⟩, hB1⟩
              | true =>
                have hmf : ∀ (fn : Fn) (first cap : Array Value) (w : World), (Instr.makeFunc fn first cap).run Try.prog w = .ok (.func fn first cap) w := fun _ _ _ _ => rfl
                have hci : (i : Int) ≤ (c : Int) := by omega
                go_wp2_with fail
                refine (containslab_calls l x.n b off i c p w1 ra HRA.out (by omega) (by have := HLEN.out; omega) (by have := hB1.size; omega) (by rw [HN.out]; exact q0) (fun t ht => (hB1.cell (p := ⟨b, off + t, none⟩) hbl).trans (HC.out t ht))).mono ?_
                rintro e w3 ⟨rfl, hb3⟩
                have hB3 : Below w.heap.size w w3 := hB1.trans (hb3.mono hB1.size)
                cases ra with
                | true =>
                  obtain rfl : 42 = R := by have := HSC3.out; simpa using this
                  go_wp2_with fail
                  go_ret2
                  exact ⟨⟨_, rfl⟩, hB3⟩
                | false =>
                  go_wp2_with fail
                  go_roundg (gk - 1)
                  case measure => have := HIG.out; omega
                  case rel =>
                    refine ⟨i + 1, by have := HIG.out; omega, by go_num, ?_, hB3⟩
                    rw [List.take_succ_eq_append_getElem hil, HX.out]
                    have := HSC3.out
                    simpa using this
          · have hR0 : R = 0 := by
              have := HSC.out
              rw [List.drop_of_length_le (by have := HLEN.out; omega), scanErr] at this
              exact this.symm
            have HR0 := Lib.hid hR0
            have el : decide ((i : Int) < (n : Int)) = false := by simp; omega
            have el' : decide (i < n) = false := by simp; omega
            clear hR0
            go_wp2_with fail
            go_meet
            exact ⟨hB, HR0.out⟩
      case rest =>
        obtain ⟨hB, hR0⟩ := hcut
        obtain ⟨w1, rfl⟩ : ∃ x, x = wc := ⟨_, rfl⟩
        have hE1 : Elems w1 w1.heap.size 2 encLb (some ⟨b, off, none⟩) n l := (hE.below hB).more hB.size
        have HR0 := Lib.hid hR0
        clear hR0
        go_wp2_with fail
        refine (clonelab_calls l b off n c w1 hE1 (by omega) (by omega)).mono ?_
        rintro e w2 ⟨g, cap, rfl, hown, hb2⟩
        go_wp2_with fail
        refine (sortlab_calls l g cap n _ w2 hown HLEN.out (by omega)).mono ?_
        rintro e w3 ⟨rfl, hg3⟩
        go_wp2_with fail
        go_ret2
        refine ⟨⟨_, by rw [HR0.out]; rfl⟩, ?_⟩
        have hgl := hown.lt g rfl
        have hB2 := hB.trans (hb2.mono hB.size)
        exact hB2.trans ⟨hg3.os, hg3.tape, hg3.output, hg3.size, fun k hk => hg3.block k (by have := hB2.size; omega) (fun e => by injection e with e; have := hB.size; omega)⟩
end Go.Proofs.Ytpmahljbkgielaa
