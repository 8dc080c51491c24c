/- Merged: DskWalksC, DskWalksD. -/
import Derived.Test.YtdaidbnbfjgjeaaGreatDoorDsa03
set_option linter.unusedVariables false
set_option linter.unusedSimpArgs false
/-! ## DskWalksC -/
/- The walks of layer 3 (disk): failures, ready, step, Off, Crash. -/
namespace Go.Proofs.YtdaidbnbfjgjeaaGreatDoor
open Go.RowKit
attribute [local go_sem ↓] Go.wp_at_zero Go.wp_at_succ
attribute [local go_sem] Later.cell Later.frozen

section
variable {B0 : Nat} {a : Nat → Addr}
theorem fail_calls (op s : ByteArray) (k : Nat) (w : World) :
    Calls Tryz.prog 30 #[.string op, .string s, failV a (k + 1)] w fun e w' => ∃ v, e = .returned v ∧ ErrV a w' op s (k + 1) v ∧ Below w.heap.size w w' := by
  unfold failV
  obtain ⟨x, hx⟩ : ∃ x, a (k + 1) = x := ⟨_, rfl⟩
  have HX := Lib.hid hx
  rw [hx]
  clear hx
  go_enter Tryz.func30, Tryz.ntmps30
  go_wp2_with fail
  go_ret
  exact ⟨_, rfl, ⟨_, rfl, by unfold failV; rw [HX.out]; exact Blk.new _ _ _⟩, (Below.refl _ _).alloc (Nat.le_refl _) _⟩

def readyR (off ok : Bool) : Nat := if off then 1 else if ok then 0 else 2
set_option maxHeartbeats 1000000 in
theorem ready_calls (p : Nat) (off ok : Bool) (op s : ByteArray) (k : Nat) (hk : readyR off ok = k) (w : World) (hoff : w.cell? ⟨p, 6, none⟩ = some (.bool off)) (hF : Fails B0 a w) :
    Calls Tryz.prog 28 #[.pointer (some ⟨p, 0, none⟩), .string op, .string s, .bool ok] w fun e w' => ∃ v, e = .returned v ∧ ErrV a w' op s k v ∧ Below w.heap.size w w' := by
  have f1 : _ = some (failV a 1) := (hF 1 (by decide)).2
  have f2 : _ = some (failV a 2) := (hF 2 (by decide)).2
  have hfl := fun k w => fail_calls (a := a) op s k w
  unfold failV at f1 f2 hfl
  simp only [failG] at f1 f2
  have HF := Lib.hid hfl
  have HK := Lib.hid hk
  clear hk hF hfl
  cases off with
  | true =>
    obtain rfl : 1 = k := by have := HK.out; simpa [readyR] using this
    go_enter Tryz.func28, Tryz.ntmps28
    go_wp2_with fail
    refine (HF.out 0 w).mono ?_
    rintro e w1 ⟨v, rfl, hv, hb⟩
    have HV := Lib.hid hv
    clear hv
    go_wp2_with fail
    go_ret
    exact ⟨v, rfl, HV.out, hb⟩
  | false =>
    cases ok with
    | true =>
      obtain rfl : 0 = k := by have := HK.out; simpa [readyR] using this
      go_enter Tryz.func28, Tryz.ntmps28
      go_wp2_with fail
      go_ret
      exact ⟨_, rfl, rfl, Below.refl _ _⟩
    | false =>
      obtain rfl : 2 = k := by have := HK.out; simpa [readyR] using this
      go_enter Tryz.func28, Tryz.ntmps28
      go_wp2_with fail
      refine (HF.out 1 w).mono ?_
      rintro e w1 ⟨v, rfl, hv, hb⟩
      have HV := Lib.hid hv
      clear hv
      go_wp2_with fail
      go_ret
      exact ⟨v, rfl, HV.out, hb⟩

variable {R : Nat → Nat} {A : Adr} {d : Ds}
theorem DBlk.set (w : World) {d' : Ds} {i : Nat} {u : Value} (h : DBlk w A d) (he : (#[.map (some A.md), .map (some A.mf), .map (some A.sd), .map (some A.sf), A.sv, .int .i64 (d.cap : Int), .bool d.off, .int .i64 (d.await : Int)] : Array Value).setIfInBounds i u = #[.map (some A.md), .map (some A.mf), .map (some A.sd), .map (some A.sf), A.sv, .int .i64 (d'.cap : Int), .bool d'.off, .int .i64 (d'.await : Int)]) : DBlk (w.setCell ⟨A.p, i, none⟩ u) A d' := by
  have := Blk.set_ h i u
  rw [he] at this
  exact this
def StepOut (B0 : Nat) (a : Nat → Addr) (R : Nat → Nat) (A : Adr) (d : Ds) (op s : ByteArray) (w : World) (e : Ending) (w' : World) : Prop :=
  ∃ v, e = .returned v ∧ ErrV a w' op s (stepD d).1 v ∧ CD B0 w' R A (stepD d).2 ∧ Own R R w w' ∧ ∀ k, k < w.heap.size → k ≠ A.p → w'.heap[k]? = w.heap[k]?
set_option maxHeartbeats 1000000 in
theorem step_calls (op s : ByteArray) (w : World) (h : CD B0 w R A d) (haw : d.await ≤ 9223372036854775807) (hB : B0 ≤ w.heap.size) (hF : Fails B0 a w) :
    Calls Tryz.prog 38 #[.pointer (some ⟨A.p, 0, none⟩), .string op, .string s] w (StepOut B0 a R A d op s w) := by
  have c7 : _ = some (Value.int .i64 (d.await : Int)) := Blk.cell h.blk 7
  have g7 := Blk.frozen h.blk 7
  have hp1 : R A.p ≠ 0 := by rw [h.rp]; omega
  have hpl := Blk.lt h.blk
  by_cases h0 : d.await = 0
  · have e1 : decide ((0 : Int) < (d.await : Int)) = false := by simp; omega
    have e2 : decide (0 < d.await) = false := by simp; omega
    have hst : stepD d = (0, d) := by simp [stepD, h0]
    have HST := Lib.hid hst
    have H := Lib.hid h
    obtain ⟨n, hn⟩ : ∃ n, d.await = n := ⟨_, rfl⟩
    obtain ⟨p, hp⟩ : ∃ p, A.p = p := ⟨_, rfl⟩
    rw [hn] at c7 e1 e2
    rw [hp] at c7 g7 ⊢
    clear hst h h0 hn hp hp1 hpl hF g7
    go_enter Tryz.func38, Tryz.ntmps38
    go_wp2_with fail
    go_ret
    exact ⟨_, rfl, by rw [HST.out]; rfl, by rw [HST.out]; exact H.out, Own.refl _ _, fun _ _ _ => rfl⟩
  · have e1 : decide ((0 : Int) < (d.await : Int)) = true := by simp; omega
    have e2 : decide (0 < d.await) = true := by simp; omega
    by_cases hx1 : d.await = 1
    · have hst : stepD d = (1, { d with await := 0, off := true }) := by simp [stepD, hx1]
      have f1 : _ = some (failV a 1) := (hF 1 (by decide)).2
      have hf1 := (hF 1 (by decide)).1
      have hfl := fun w => fail_calls (a := a) op s 0 w
      have hne : failG 1 ≠ A.p := by
        intro e
        have := h.low A.p (by rw [← e]; exact hf1)
        exact hp1 this
      have hblk2 : DBlk ((w.setCell ⟨A.p, 7, none⟩ (.int .i64 0)).setCell ⟨A.p, 6, none⟩ (.bool true)) A { d with await := 0, off := true } := by
        have h1 : DBlk (w.setCell ⟨A.p, 7, none⟩ (.int .i64 0)) A { d with await := 0 } := DBlk.set w h.blk rfl
        exact DBlk.set _ h1 rfl
      have hCD : CD B0 ((w.setCell ⟨A.p, 7, none⟩ (.int .i64 0)).setCell ⟨A.p, 6, none⟩ (.bool true)) R A { d with await := 0, off := true } :=
        h.blk_only (fun k _ hk => (Below.heap_setCell _ _ _ k hk).trans (Below.heap_setCell _ _ _ k hk)) (by simp [World.setCell]) hblk2 rfl rfl rfl rfl
      have hO : Own R R w ((w.setCell ⟨A.p, 7, none⟩ (.int .i64 0)).setCell ⟨A.p, 6, none⟩ (.bool true)) := (Own.of_set _ hp1).trans (Own.of_set _ hp1)
      have hfc : ((w.setCell ⟨A.p, 7, none⟩ (.int .i64 0)).setCell ⟨A.p, 6, none⟩ (.bool true)).cell? ⟨failG 1, 0, none⟩ = some (failV a 1) := by
        rw [← f1]
        exact World.cell?_of_block ((Below.heap_setCell _ _ _ _ hne).trans (Below.heap_setCell _ _ _ _ hne))
      have c7' := c7
      rw [hx1] at c7'
      have g6 := Blk.frozen h.blk 6
      have c6 : _ = some (Value.bool d.off) := Blk.cell h.blk 6
      unfold failV at hfc hfl
      simp only [failG] at hfc
      have hfar : ∀ w1 : World, Below ((w.setCell ⟨A.p, 7, none⟩ (.int .i64 0)).setCell ⟨A.p, 6, none⟩ (.bool true)).heap.size ((w.setCell ⟨A.p, 7, none⟩ (.int .i64 0)).setCell ⟨A.p, 6, none⟩ (.bool true)) w1 → ∀ k, k < w.heap.size → k ≠ A.p → w1.heap[k]? = w.heap[k]? :=
        fun w1 hb k hk hne => (hb.block k (by simp [World.setCell]; exact hk)).trans ((Below.heap_setCell _ _ _ k hne).trans (Below.heap_setCell _ _ _ k hne))
      have HFAR := Lib.hid hfar
      have HST := Lib.hid hst
      have HC := Lib.hid hCD
      have HO := Lib.hid hO
      have HFL := Lib.hid hfl
      obtain ⟨p, hp⟩ : ∃ p, A.p = p := ⟨_, rfl⟩
      have HPP := Lib.hid hp
      rw [hp] at c7' g7 g6 c6 hpl hfc HC HO HFAR ⊢
      clear hfar
      clear hst h h0 hp hp1 hF hfl hCD hO hblk2 f1 hf1 hne c7 e1 e2 hx1
      go_enter Tryz.func38, Tryz.ntmps38
      go_wp2_with fail
      refine (HFL.out _).mono ?_
      rintro e w1 ⟨v, rfl, hv, hb⟩
      have HV := Lib.hid hv
      clear hv
      go_wp2_with fail
      go_ret
      exact ⟨v, rfl, by rw [HST.out]; exact HV.out, by rw [HST.out]; exact HC.out.below hb, HO.out.trans (Own.of_below hb), by rw [HPP.out]; exact HFAR.out _ hb⟩
    · have hst : stepD d = (0, { d with await := d.await - 1 }) := by simp [stepD, h0, hx1]
      have hval : (Value.int .i64 ((d.await : Int) - 1)) = .int .i64 ((d.await - 1 : Nat) : Int) := vi (by omega)
      have hblk2 : DBlk (w.setCell ⟨A.p, 7, none⟩ (.int .i64 ((d.await : Int) - 1))) A { d with await := d.await - 1 } := DBlk.set w h.blk (by rw [hval]; rfl)
      have hCD : CD B0 (w.setCell ⟨A.p, 7, none⟩ (.int .i64 ((d.await : Int) - 1))) R A { d with await := d.await - 1 } :=
        h.blk_only (fun k _ hk => Below.heap_setCell _ _ _ k hk) (by simp [World.setCell]) hblk2 rfl rfl rfl rfl
      have hO : Own R R w (w.setCell ⟨A.p, 7, none⟩ (.int .i64 ((d.await : Int) - 1))) := Own.of_set _ hp1
      have HST := Lib.hid hst
      have HC := Lib.hid hCD
      have HO := Lib.hid hO
      have e3 : (((d.await : Int) - 1) == 0) = false := by simp; omega
      have hn2 : 2 ≤ d.await := by omega
      obtain ⟨n, hn⟩ : ∃ n, d.await = n := ⟨_, rfl⟩
      obtain ⟨p, hp⟩ : ∃ p, A.p = p := ⟨_, rfl⟩
      have HPP := Lib.hid hp
      have hr := HST.out
      rw [hn] at c7 e1 e2 e3 HC HO haw hn2 hr
      rw [hp] at c7 g7 hpl HC HO ⊢
      have HR := Lib.hid hr
      clear hst h h0 hp hp1 hF hCD hO hblk2 hx1 hval hn hr HST
      go_enter Tryz.func38, Tryz.ntmps38
      go_wp2_with fail
      go_ret
      exact ⟨_, rfl, by rw [HR.out]; rfl, by rw [HR.out]; exact HC.out, HO.out, fun k _ hne => Below.heap_setCell _ _ _ k (by rw [← HPP.out]; exact hne)⟩
end

/-! ### Off, Crash -/
set_option maxHeartbeats 400000 in
theorem off_calls (p : Nat) (off : Bool) (w : World) (hoff : w.cell? ⟨p, 6, none⟩ = some (.bool off)) :
    Calls Tryz.prog 19 #[.pointer (some ⟨p, 0, none⟩)] w fun e w' => e = .returned (.bool off) ∧ w = w' := by
  go_enter Tryz.func19, Tryz.ntmps19
  go_wp2_with fail
  go_ret
  exact ⟨rfl, rfl⟩
theorem off_nil_calls (w : World) : Calls Tryz.prog 19 #[.pointer none] w fun e w' => e = .returned (.bool true) ∧ w = w' := by
  go_enter Tryz.func19, Tryz.ntmps19
  go_wp2_with fail
  go_ret
  exact ⟨rfl, rfl⟩
set_option maxHeartbeats 1000000 in
theorem crash_calls {B0 : Nat} {R : Nat → Nat} {A : Adr} {d : Ds} (n : Int) (w : World) (h : CD B0 w R A d) (hn : n ≤ 9223372036854775807) (hn' : -9223372036854775808 ≤ n) :
    Calls Tryz.prog 97 #[.pointer (some ⟨A.p, 0, none⟩), .int .i64 n] w fun e w' => e = .returned (.tuple #[]) ∧ CD B0 w' R A (crashD d n) ∧ Own R R w w' := by
  have c7 : _ = some (Value.int .i64 (d.await : Int)) := Blk.cell h.blk 7
  have g7 := Blk.frozen h.blk 7
  have hp1 : R A.p ≠ 0 := by rw [h.rp]; omega
  have hblk2 : ∀ v : Int, v = (n.toNat : Int) → DBlk (w.setCell ⟨A.p, 7, none⟩ (.int .i64 v)) A (crashD d n) := fun v hv => DBlk.set w h.blk (by rw [hv]; rfl)
  have hCD : ∀ v : Int, v = (n.toNat : Int) → CD B0 (w.setCell ⟨A.p, 7, none⟩ (.int .i64 v)) R A (crashD d n) := fun v hv =>
    h.blk_only (fun k _ hk => Below.heap_setCell _ _ _ k hk) (by simp [World.setCell]) (hblk2 v hv) rfl rfl rfl rfl
  have hO : ∀ v : Value, Own R R w (w.setCell ⟨A.p, 7, none⟩ v) := fun v => Own.of_set _ hp1
  have HC := Lib.hid hCD
  have HO := Lib.hid hO
  obtain ⟨p, hp⟩ : ∃ p, A.p = p := ⟨_, rfl⟩
  rw [hp] at c7 g7 HC HO ⊢
  clear h hp hp1 hCD hO hblk2
  by_cases hneg : n < 0
  · have e1 : decide ((0 : Int) < n) = false := by simp; omega
    have e2 : decide (n < 0) = true := by simpa using hneg
    have e3 : decide ((0 : Int) ≤ n) = false := by simp; omega
    have e4 : max 0 n = 0 := by omega
    go_enter Tryz.func97, Tryz.ntmps97
    go_wp2_with fail
    go_end0
    exact ⟨rfl, HC.out _ (by omega), HO.out _⟩
  · have e2 : decide (n < 0) = false := by simp; omega
    have e4 : max 0 n = n := by omega
    go_enter Tryz.func97, Tryz.ntmps97
    go_wp2_with fail
    go_end0
    exact ⟨rfl, HC.out _ (by omega), HO.out _⟩
end Go.Proofs.YtdaidbnbfjgjeaaGreatDoor

/-! ## DskWalksD -/
/- The walks of layer 3 (disk): copies of a tree, New. -/
namespace Go.Proofs.YtdaidbnbfjgjeaaGreatDoor
open Go.RowKit Go.Shelf
attribute [local go_sem ↓] Go.wp_at_zero Go.wp_at_succ
attribute [local go_sem] Later.cell Later.frozen

abbrev SM (w : World) (b : Nat) (f : Txt → Option Value) : Prop := SMap Tryz.prog 9 w b f
def CloneOut (w : World) (f : Txt → Option Value) (e : Ending) (w' : World) : Prop :=
  ∃ x, e = .returned (.map (some x)) ∧ SM w' x f ∧ w.heap.size ≤ x ∧ Below w.heap.size w w'
theorem cloneD_calls (b : Nat) (f : Txt → Option Value) (w : World) (h : SM w b f) : Calls Tryz.prog 74 #[.map (some b)] w (CloneOut w f) := by
  obtain ⟨D, h1, h2, h3⟩ := h
  have hcon := AnyW.maps_Clone_owns Tryz.cloneD 9 HR b (Maps.size D) D w h1
  change Calls Tryz.prog 74 _ _ _ at hcon
  refine hcon.mono ?_
  rintro e w' ⟨rfl, a1, _, a3⟩
  exact ⟨_, rfl, ⟨D, a1, h2, h3⟩, Nat.le_refl _, a3⟩
theorem cloneF_calls (b : Nat) (f : Txt → Option Value) (w : World) (h : SM w b f) : Calls Tryz.prog 75 #[.map (some b)] w (CloneOut w f) := by
  obtain ⟨D, h1, h2, h3⟩ := h
  have hcon := AnyW.maps_Clone_owns Tryz.cloneF 9 HR b (Maps.size D) D w h1
  change Calls Tryz.prog 75 _ _ _ at hcon
  refine hcon.mono ?_
  rintro e w' ⟨rfl, a1, _, a3⟩
  exact ⟨_, rfl, ⟨D, a1, h2, h3⟩, Nat.le_refl _, a3⟩

def TwinD (w : World) (f g : Txt → Option Value) (e : Ending) (w' : World) : Prop :=
  ∃ x y, e = .returned (.agg #[.map (some x), .map (some y)]) ∧ SM w' x f ∧ SM w' y g ∧ x ≠ y ∧ w.heap.size ≤ x ∧ w.heap.size ≤ y ∧ Below w.heap.size w w'
theorem twinS_of {md mf q : Nat} {w : World} (h : Blk w q 68 #[.map (some md), .map (some mf)]) : w.cell? ⟨q, 0, none⟩ = some (.map (some md)) ∧ w.cell? ⟨q, 1, none⟩ = some (.map (some mf)) := ⟨h.cell 0, h.cell 1⟩
theorem SMap.lt_ne {w w' : World} {x y : Nat} {f : Txt → Option Value} (h : SM w x f) (hy : w.heap.size ≤ y) : x ≠ y := by have := SMap.lt h; omega

set_option maxRecDepth 100000 in
set_option maxHeartbeats 2000000 in
theorem twinD_calls (md mf : Nat) (f g : Txt → Option Value) (w : World) (hd : SM w md f) (hf : SM w mf g) :
    Calls Tryz.prog 27 #[.agg #[.map (some md), .map (some mf)]] w (TwinD w f g) := by
  go_enter Tryz.func27, Tryz.ntmps27
  go_upto_region 1 with fail
  obtain ⟨w0, hw0⟩ : ∃ x, (w.alloc (.cells #[.map (some md), .map (some mf)] 68)).alloc (.cells #[.map none, .map none] 68) = x := ⟨_, rfl⟩
  have hb0 : Below w.heap.size w w0 := by rw [← hw0]; exact ((Below.refl _ _).alloc (Nat.le_refl _) _).alloc (by simp) _
  have hq : Blk w0 w.heap.size 68 #[.map (some md), .map (some mf)] := by rw [← hw0]; exact (Blk.new _ _ _).alloc _
  have hp : Blk w0 (w.heap.size + 1) 68 #[.map none, .map none] := by rw [← hw0]; exact Blk.newAt (by simp)
  have hd0 : SM w0.drew md f := hd.below hb0.drew hd.lt
  have hf0 : SM w0.drew mf g := hf.below hb0.drew hf.lt
  have hq0 : Blk w0.drew w.heap.size 68 #[.map (some md), .map (some mf)] := hq
  have hp0 : Blk w0.drew (w.heap.size + 1) 68 #[.map none, .map none] := hp
  rw [hw0]
  obtain ⟨q, hqq⟩ : ∃ a, w.heap.size = a := ⟨_, rfl⟩
  have hB0 : Below w.heap.size w w0.drew := hb0.drew
  rw [hqq] at hq0 hp0 ⊢
  clear hw0 hq hp hb0
  have hqp : q ≠ q + 1 := by omega
  go_region_held3 (fun w' => w'.cell? ⟨q, 0, none⟩ = some (.map (some md)) ∧ w'.cell? ⟨q, 1, none⟩ = some (.map (some mf)))
    (first | exact twinS_of hq0 | exact twinS_of hq2 | exact twinS_of hq1 | exact twinS_of ((hq2.far (by simp) _).far (by simp) _) | go_keep)
    (first
      | (go_at_call 74; refine (cloneD_calls md f w0.drew hd0).mono ?_; rintro e w1 ⟨x, rfl, hx, hxl, hb1⟩; have hq1 := hq0.below hb1 hq0.lt)
      | (go_at_call 75; refine (cloneF_calls mf g w1 (hf0.below hb1 hf0.lt)).mono ?_; rintro e w2 ⟨y, rfl, hy, hyl, hb2⟩; have hq2 := hq1.below hb2 hq1.lt; have hp2 := (hp0.below hb1 hp0.lt).below hb2 (hp0.below hb1 hp0.lt).lt; have k0 : _ = some (Value.map none) := hp2.cell 0; have k1 : _ = some (Value.map none) := hp2.cell 1; have g0 := hp2.frozen 0; have g1 := hp2.frozen 1)
      | (go_at_call 75; refine (cloneF_calls mf g w0.drew hf0).mono ?_; rintro e w1 ⟨y, rfl, hy, hyl, hb1⟩; have hq1 := hq0.below hb1 hq0.lt)
      | (go_at_call 74; refine (cloneD_calls md f w1 (hd0.below hb1 hd0.lt)).mono ?_; rintro e w2 ⟨x, rfl, hx, hxl, hb2⟩; have hq2 := hq1.below hb2 hq1.lt; have hp2 := (hp0.below hb1 hp0.lt).below hb2 (hp0.below hb1 hp0.lt).lt; have k0 : _ = some (Value.map none) := hp2.cell 0; have k1 : _ = some (Value.map none) := hp2.cell 1; have g0 := hp2.frozen 0; have g1 := hp2.frozen 1))
  all_goals
    have hX : SM w2 x f := by first | exact hx | exact hx.below hb2 hx.lt
    have hY : SM w2 y g := by first | exact hy | exact hy.below hb2 hy.lt
    have hl1 := hp0.lt
    have hxy : x ≠ y := by have h1 := SMap.lt hx; have h2 := SMap.lt hy; omega
    have hs1 := hb1.size
    have hx1 : w0.drew.heap.size ≤ x := by omega
    have hy1 : w0.drew.heap.size ≤ y := by omega
    have hX3 : SM ((w2.setCell ⟨q + 1, 0, none⟩ (.map (some x))).setCell ⟨q + 1, 1, none⟩ (.map (some y))) x f := hX.same ((Below.heap_setCell _ _ _ _ (by simp; omega)).trans (Below.heap_setCell _ _ _ _ (by simp; omega)))
    have hY3 : SM ((w2.setCell ⟨q + 1, 0, none⟩ (.map (some x))).setCell ⟨q + 1, 1, none⟩ (.map (some y))) y g := hY.same ((Below.heap_setCell _ _ _ _ (by simp; omega)).trans (Below.heap_setCell _ _ _ _ (by simp; omega)))
    have hp3 : Blk ((w2.setCell ⟨q + 1, 0, none⟩ (.map (some x))).setCell ⟨q + 1, 1, none⟩ (.map (some y))) (q + 1) 68 #[.map (some x), .map (some y)] := (hp2.set_ 0 _).set_ 1 _
    have hB3 : Below w.heap.size w ((w2.setCell ⟨q + 1, 0, none⟩ (.map (some x))).setCell ⟨q + 1, 1, none⟩ (.map (some y))) := ((then_ (then_ hB0 hb1) hb2).setCell (by simp; omega) _).setCell (by simp; omega) _
    have hsz := hB0.size
    obtain ⟨w3, hw3⟩ : ∃ w3, (w2.setCell ⟨q + 1, 0, none⟩ (.map (some x))).setCell ⟨q + 1, 1, none⟩ (.map (some y)) = w3 := ⟨_, rfl⟩
    rw [hw3] at hX3 hY3 hp3 hB3 ⊢
    have m0 : _ = some (Value.map (some x)) := hp3.cell 0
    have m1 : _ = some (Value.map (some y)) := hp3.cell 1
    have hO : TwinD w f g (.returned (.agg #[.map (some x), .map (some y)])) w3 := ⟨x, y, rfl, hX3, hY3, hxy, by omega, by omega, hB3⟩
    have HO := Lib.hid hO
    clear hX hY hx hy hX3 hY3 hB3 hO hb1 hb2 hq0 hp0 hp2 k0 k1 g0 g1 hd0 hf0 hw3 hB0 hq1 hq2 hxy hx1 hy1 hxl hyl hs1 hl1 hsz hqp hd hf hp3
    go_wp2_with fail
    exact bodyPost_ret (v := .agg #[.map (some x), .map (some y)]) (by simp [results, Tryz.results27, go_sem, m0, m1]) rfl HO.out

/-- A disk that is new. -/
def NewOut (B0 : Nat) (n : Int) (w : World) (e : Ending) (w' : World) : Prop :=
  ∃ R A, e = .returned (.pointer (some ⟨A.p, 0, none⟩)) ∧ CD B0 w' R A (newD n) ∧ Below w.heap.size w w' ∧ ∀ k, R k ≠ 0 → w.heap.size ≤ k
def newR (B x y k : Nat) : Nat := if k = B + 2 then 1 else if k = B then 2 else if k = B + 1 then 3 else if k = x then 4 else if k = y then 6 else 0
theorem dirF_nil : dirF [] = fun _ => none := by funext x; simp [dirF]
theorem filF_nil (φ : List Nat) : filF φ [] = fun _ => none := by funext x; simp [filF]
set_option maxRecDepth 100000 in
set_option maxHeartbeats 2000000 in
theorem new_calls (B0 : Nat) (n : Int) (w : World) (hB : B0 ≤ w.heap.size) (hn : n ≤ 9223372036854775807) (hn' : -9223372036854775808 ≤ n) :
    Calls Tryz.prog 10 #[.int .i64 n] w (NewOut B0 n w) := by
  have hmm := @run_makeMap Tryz.prog
  have key : ∀ c : Int, c = ((newD n).cap : Int) → ∀ W : World, W = ((w.alloc (.map #[] 0)).alloc (.map #[] 0)).alloc (.cells #[.map (some w.heap.size), .map (some (w.heap.size + 1)), .map none, .map none, .slice none 0 0, .int .i64 c, .bool false, .int .i64 0] 71) →
      ∀ e W', TwinD W (fun _ => none) (fun _ => none) e W' → ∃ x y, e = .returned (.agg #[.map (some x), .map (some y)]) ∧ Blk W' (w.heap.size + 2) 71 #[.map (some w.heap.size), .map (some (w.heap.size + 1)), .map none, .map none, .slice none 0 0, .int .i64 c, .bool false, .int .i64 0] ∧
        NewOut B0 n w (.returned (.pointer (some ⟨w.heap.size + 2, 0, none⟩))) ((W'.setCell ⟨w.heap.size + 2, 2, none⟩ (.map (some x))).setCell ⟨w.heap.size + 2, 3, none⟩ (.map (some y))) := by
    rintro c hc W rfl e W' ⟨x, y, rfl, hx, hy, hxy, hxl, hyl, hb⟩
    have m1 : SM (w.alloc (.map #[] 0)) w.heap.size fun _ => none := SMap.made w
    have m2 : SM ((w.alloc (.map #[] 0)).alloc (.map #[] 0)) (w.heap.size + 1) fun _ => none := by
      have := SMap.made (P := Tryz.prog) (K := 9) (w.alloc (.map #[] 0))
      simpa using this
    have m1' := m1.grown (World.grownBy_alloc _ (.map #[] 0) none) (by simp)
    have hblk : Blk (((w.alloc (.map #[] 0)).alloc (.map #[] 0)).alloc (.cells #[.map (some w.heap.size), .map (some (w.heap.size + 1)), .map none, .map none, .slice none 0 0, .int .i64 c, .bool false, .int .i64 0] 71)) (w.heap.size + 2) 71 #[.map (some w.heap.size), .map (some (w.heap.size + 1)), .map none, .map none, .slice none 0 0, .int .i64 c, .bool false, .int .i64 0] := Blk.newAt (by simp)
    have m1'' := m1'.grown (World.grownBy_alloc _ (.cells #[.map (some w.heap.size), .map (some (w.heap.size + 1)), .map none, .map none, .slice none 0 0, .int .i64 c, .bool false, .int .i64 0] 71) none) (by simp)
    have m2'' := m2.grown (World.grownBy_alloc _ (.cells #[.map (some w.heap.size), .map (some (w.heap.size + 1)), .map none, .map none, .slice none 0 0, .int .i64 c, .bool false, .int .i64 0] 71) none) (by simp)
    have hsz : (((w.alloc (.map #[] 0)).alloc (.map #[] 0)).alloc (.cells #[.map (some w.heap.size), .map (some (w.heap.size + 1)), .map none, .map none, .slice none 0 0, .int .i64 c, .bool false, .int .i64 0] 71)).heap.size = w.heap.size + 3 := by simp
    have hB1 : Below w.heap.size w (((w.alloc (.map #[] 0)).alloc (.map #[] 0)).alloc (.cells #[.map (some w.heap.size), .map (some (w.heap.size + 1)), .map none, .map none, .slice none 0 0, .int .i64 c, .bool false, .int .i64 0] 71)) := (((Below.refl _ _).alloc (Nat.le_refl _) _).alloc (by simp) _).alloc (by simp; omega) _
    obtain ⟨W, hW⟩ : ∃ W, ((w.alloc (.map #[] 0)).alloc (.map #[] 0)).alloc (.cells #[.map (some w.heap.size), .map (some (w.heap.size + 1)), .map none, .map none, .slice none 0 0, .int .i64 c, .bool false, .int .i64 0] 71) = W := ⟨_, rfl⟩
    rw [hW] at hblk m1'' m2'' hsz hB1 hb hxl hyl
    have hblk' := hblk.below hb hblk.lt
    have n1 := m1''.below hb m1''.lt
    have n2 := m2''.below hb m2''.lt
    rw [hsz] at hxl hyl
    refine ⟨x, y, rfl, hblk', ?_⟩
    obtain ⟨B, hBw⟩ : ∃ B, w.heap.size = B := ⟨_, rfl⟩
    have hx1 := SMap.lt hx
    have hy1 := SMap.lt hy
    have hBW : Below w.heap.size w W' := hB1.trans (hb.mono (by omega))
    rw [hBw] at hblk' n1 n2 hxl hyl hB ⊢
    have hset : ∀ k, k ≠ B + 2 → ((W'.setCell ⟨B + 2, 2, none⟩ (.map (some x))).setCell ⟨B + 2, 3, none⟩ (.map (some y))).heap[k]? = W'.heap[k]? := fun k hk => (Below.heap_setCell _ _ _ _ hk).trans (Below.heap_setCell _ _ _ _ hk)
    have hsizes : ((W'.setCell ⟨B + 2, 2, none⟩ (.map (some x))).setCell ⟨B + 2, 3, none⟩ (.map (some y))).heap.size = W'.heap.size := by simp [World.setCell]
    have hb3 := hblk'.lt
    refine ⟨newR B x y, ⟨B + 2, B, B + 1, x, y, .slice none 0 0, []⟩, rfl, ?_, ?_, ?_⟩
    · exact {
        blk := by
          have h3 := (hblk'.set_ 2 (.map (some x))).set_ 3 (.map (some y))
          rw [hc] at h3
          exact h3
        rp := by simp [newR]
        dirs := ⟨by rw [show (newD n).things = [] from rfl, dirF_nil]; exact n1.same (hset B (by omega)), by simp [newR]⟩
        files := ⟨by rw [show (newD n).things = [] from rfl, filF_nil]; exact n2.same (hset _ (by omega)), by simp [newR]⟩
        sdirs := ⟨by rw [show (newD n).safe = [] from rfl, dirF_nil]; exact hx.same (hset _ (by omega)), by show newR B x y x = 4; unfold newR; (repeat' split) <;> omega⟩
        sfiles := ⟨by rw [show (newD n).safe = [] from rfl, filF_nil]; exact hy.same (hset _ (by omega)), by show newR B x y y = 6; unfold newR; (repeat' split) <;> omega⟩
        steps := ⟨[], RowIs.nil, rfl, fun i s f hs => by simp [newD] at hs⟩
        bytes := ⟨rfl, fun i b f hb => by simp at hb⟩
        inw := fun k hk => by
          rw [hsizes]
          unfold newR at hk
          repeat' split at hk
          all_goals omega
        low := fun k hk => by
          unfold newR
          repeat' split
          all_goals omega }
    · exact (hBW.setCell (by simp; omega) _).setCell (by simp; omega) _
    · intro k hk
      unfold newR at hk
      repeat' split at hk
      all_goals omega
  have hcap : ((newD n).cap : Int) = max 0 (min n 67108864) := by simp only [newD]; omega
  have KEY := Lib.hid key
  have HCAP := Lib.hid hcap
  clear key hcap
  have htw := fun W => twinD_calls w.heap.size (w.heap.size + 1) (fun _ => none) (fun _ => none) W
  have HTW := Lib.hid htw
  clear htw
  have hmade : ∀ c : Value, SM (((w.alloc (.map #[] 0)).alloc (.map #[] 0)).alloc (.cells #[.map (some w.heap.size), .map (some (w.heap.size + 1)), .map none, .map none, .slice none 0 0, c, .bool false, .int .i64 0] 71)) w.heap.size (fun _ => none) ∧ SM (((w.alloc (.map #[] 0)).alloc (.map #[] 0)).alloc (.cells #[.map (some w.heap.size), .map (some (w.heap.size + 1)), .map none, .map none, .slice none 0 0, c, .bool false, .int .i64 0] 71)) (w.heap.size + 1) (fun _ => none) := by
    intro c
    have m1 : SM (w.alloc (.map #[] 0)) w.heap.size fun _ => none := SMap.made w
    have m2 : SM ((w.alloc (.map #[] 0)).alloc (.map #[] 0)) (w.heap.size + 1) fun _ => none := by
      have := SMap.made (P := Tryz.prog) (K := 9) (w.alloc (.map #[] 0))
      simpa using this
    exact ⟨(m1.grown (World.grownBy_alloc _ (.map #[] 0) none) (by simp)).grown (World.grownBy_alloc _ _ none) (by simp), m2.grown (World.grownBy_alloc _ _ none) (by simp)⟩
  have HM := Lib.hid hmade
  clear hmade
  by_cases h0 : n < 0
  · have e1 : min n 67108864 = n := by omega
    have e2 : max 0 n = 0 := by omega
    have d1 : decide (n < 67108864) = true := by simp; omega
    have d2 : decide (67108864 < n) = false := by simp; omega
    have d3 : decide (n < 0) = true := by simp; omega
    have d4 : decide (0 < n) = false := by simp; omega
    have HC := Lib.hid (show (0 : Int) = ((newD n).cap : Int) by rw [HCAP.out]; omega)
    go_enter Tryz.func10, Tryz.ntmps10
    go_wp2_with fail
    refine (HTW.out _ (HM.out _).1 (HM.out _).2).mono ?_
    rintro e W' hO
    obtain ⟨x, y, rfl, hblk, hN⟩ := KEY.out 0 HC.out _ rfl e W' hO
    have k2 : _ = some (Value.map none) := hblk.cell 2
    have k3 : _ = some (Value.map none) := hblk.cell 3
    have g2 := hblk.frozen 2
    have g3 := hblk.frozen 3
    have HN := Lib.hid hN
    clear hN hO hblk
    go_wp2_with fail
    go_ret
    exact HN.out
  · by_cases h1 : n < 67108864
    · have e1 : min n 67108864 = n := by omega
      have e2 : max 0 n = n := by omega
      have d1 : decide (n < 67108864) = true := by simp; omega
      have d2 : decide (67108864 < n) = false := by simp; omega
      have d3 : decide (n < 0) = false := by simp; omega
      have HC := Lib.hid (show n = ((newD n).cap : Int) by rw [HCAP.out]; omega)
      go_enter Tryz.func10, Tryz.ntmps10
      go_wp2_with fail
      refine (HTW.out _ (HM.out _).1 (HM.out _).2).mono ?_
      rintro e W' hO
      obtain ⟨x, y, rfl, hblk, hN⟩ := KEY.out n HC.out _ rfl e W' hO
      have k2 : _ = some (Value.map none) := hblk.cell 2
      have k3 : _ = some (Value.map none) := hblk.cell 3
      have g2 := hblk.frozen 2
      have g3 := hblk.frozen 3
      have HN := Lib.hid hN
      clear hN hO hblk
      go_wp2_with fail
      go_ret
      exact HN.out
    · have e1 : min n 67108864 = 67108864 := by omega
      have d1 : decide (n < 67108864) = false := by simp; omega
      have d5 : decide (67108864 ≤ n) = true := by simp; omega
      have HC := Lib.hid (show (67108864 : Int) = ((newD n).cap : Int) by rw [HCAP.out]; omega)
      go_enter Tryz.func10, Tryz.ntmps10
      go_wp2_with fail
      refine (HTW.out _ (HM.out _).1 (HM.out _).2).mono ?_
      rintro e W' hO
      obtain ⟨x, y, rfl, hblk, hN⟩ := KEY.out 67108864 HC.out _ rfl e W' hO
      have k2 : _ = some (Value.map none) := hblk.cell 2
      have k3 : _ = some (Value.map none) := hblk.cell 3
      have g2 := hblk.frozen 2
      have g3 := hblk.frozen 3
      have HN := Lib.hid hN
      clear hN hO hblk
      go_wp2_with fail
      go_ret
      exact HN.out
end Go.Proofs.YtdaidbnbfjgjeaaGreatDoor
