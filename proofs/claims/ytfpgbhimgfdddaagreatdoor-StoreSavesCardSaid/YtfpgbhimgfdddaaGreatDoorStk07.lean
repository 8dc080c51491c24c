/- Merged (what the claim wants of): DskWalksC, DskWalksD, DskWalksE. -/
import Derived.Test.YtfpgbhimgfdddaaGreatDoorStk06
import Derived.Test.YtfpgbhimgfdddaaGreatDoorStk05
import Derived.Deep.DeepCutAuto
set_option linter.unusedVariables false
set_option linter.unusedSimpArgs false
/- The walks of layer 3 (disk): failures, ready, step, Off, Crash. -/
namespace Go.Proofs.YtfpgbhimgfdddaaGreatDoor
open Go.RowKit
attribute [local go_sem ↓] Go.wp_at_zero Go.wp_at_succ
attribute [local go_sem] Later.cell Later.frozen

section
variable {B0 : Nat} {a : Nat → Addr}
theorem fail_calls (op s : ByteArray) (k : Nat) (w : World) :
    Calls Tryz.prog 64 #[.string op, .string s, failV a (k + 1)] w fun e w' => ∃ v, e = .returned v ∧ ErrV a w' op s (k + 1) v ∧ Below w.heap.size w w' := by
  unfold failV
  obtain ⟨x, hx⟩ : ∃ x, a (k + 1) = x := ⟨_, rfl⟩
  have HX := Lib.hid hx
  rw [hx]
  clear hx
  go_enter Tryz.func64, Tryz.ntmps64
  go_wp2_with fail
  go_ret
  exact ⟨_, rfl, ⟨_, rfl, by unfold failV; rw [HX.out]; exact Blk.new _ _ _⟩, (Below.refl _ _).alloc (Nat.le_refl _) _⟩

def readyR (off ok : Bool) : Nat := if off then 1 else if ok then 0 else 2
set_option maxHeartbeats 1000000 in
theorem ready_calls (p : Nat) (off ok : Bool) (op s : ByteArray) (k : Nat) (hk : readyR off ok = k) (w : World) (hoff : w.cell? ⟨p, 6, none⟩ = some (.bool off)) (hF : Fails B0 a w) :
    Calls Tryz.prog 61 #[.pointer (some ⟨p, 0, none⟩), .string op, .string s, .bool ok] w fun e w' => ∃ v, e = .returned v ∧ ErrV a w' op s k v ∧ Below w.heap.size w w' := by
  have f1 : _ = some (failV a 1) := (hF 1 (by decide)).2
  have f2 : _ = some (failV a 2) := (hF 2 (by decide)).2
  have hfl := fun k w => fail_calls (a := a) op s k w
  unfold failV at f1 f2 hfl
  simp only [failG] at f1 f2
  have HF := Lib.hid hfl
  have HK := Lib.hid hk
  clear hk hF hfl
  cases off with
  | true =>
    obtain rfl : 1 = k := by have := HK.out; simpa [readyR] using this
    go_enter Tryz.func61, Tryz.ntmps61
    go_wp2_with fail
    refine (HF.out 0 w).mono ?_
    rintro e w1 ⟨v, rfl, hv, hb⟩
    have HV := Lib.hid hv
    clear hv
    go_wp2_with fail
    go_ret
    exact ⟨v, rfl, HV.out, hb⟩
  | false =>
    cases ok with
    | true =>
      obtain rfl : 0 = k := by have := HK.out; simpa [readyR] using this
      go_enter Tryz.func61, Tryz.ntmps61
      go_wp2_with fail
      go_ret
      exact ⟨_, rfl, rfl, Below.refl _ _⟩
    | false =>
      obtain rfl : 2 = k := by have := HK.out; simpa [readyR] using this
      go_enter Tryz.func61, Tryz.ntmps61
      go_wp2_with fail
      refine (HF.out 1 w).mono ?_
      rintro e w1 ⟨v, rfl, hv, hb⟩
      have HV := Lib.hid hv
      clear hv
      go_wp2_with fail
      go_ret
      exact ⟨v, rfl, HV.out, hb⟩

variable {R : Nat → Nat} {A : Adr} {d : Ds}
theorem DBlk.set (w : World) {d' : Ds} {i : Nat} {u : Value} (h : DBlk w A d) (he : (#[.map (some A.md), .map (some A.mf), .map (some A.sd), .map (some A.sf), A.sv, .int .i64 (d.cap : Int), .bool d.off, .int .i64 (d.await : Int)] : Array Value).setIfInBounds i u = #[.map (some A.md), .map (some A.mf), .map (some A.sd), .map (some A.sf), A.sv, .int .i64 (d'.cap : Int), .bool d'.off, .int .i64 (d'.await : Int)]) : DBlk (w.setCell ⟨A.p, i, none⟩ u) A d' := by
  have := Blk.set_ h i u
  rw [he] at this
  exact this
def StepOut (B0 : Nat) (a : Nat → Addr) (R : Nat → Nat) (A : Adr) (d : Ds) (op s : ByteArray) (w : World) (e : Ending) (w' : World) : Prop :=
  ∃ v, e = .returned v ∧ ErrV a w' op s (stepD d).1 v ∧ CD B0 w' R A (stepD d).2 ∧ Own R R w w' ∧ ∀ k, k < w.heap.size → k ≠ A.p → w'.heap[k]? = w.heap[k]?
set_option maxHeartbeats 1000000 in
theorem step_calls (op s : ByteArray) (w : World) (h : CD B0 w R A d) (haw : d.await ≤ 9223372036854775807) (hB : B0 ≤ w.heap.size) (hF : Fails B0 a w) :
    Calls Tryz.prog 69 #[.pointer (some ⟨A.p, 0, none⟩), .string op, .string s] w (StepOut B0 a R A d op s w) := by
  have c7 : _ = some (Value.int .i64 (d.await : Int)) := Blk.cell h.blk 7
  have g7 := Blk.frozen h.blk 7
  have hp1 : R A.p ≠ 0 := by rw [h.rp]; omega
  have hpl := Blk.lt h.blk
  by_cases h0 : d.await = 0
  · have e1 : decide ((0 : Int) < (d.await : Int)) = false := by simp; omega
    have e2 : decide (0 < d.await) = false := by simp; omega
    have hst : stepD d = (0, d) := by simp [stepD, h0]
    have HST := Lib.hid hst
    have H := Lib.hid h
    obtain ⟨n, hn⟩ : ∃ n, d.await = n := ⟨_, rfl⟩
    obtain ⟨p, hp⟩ : ∃ p, A.p = p := ⟨_, rfl⟩
    rw [hn] at c7 e1 e2
    rw [hp] at c7 g7 ⊢
    clear hst h h0 hn hp hp1 hpl hF g7
    go_enter Tryz.func69, Tryz.ntmps69
    go_wp2_with fail
    go_ret
    exact ⟨_, rfl, by rw [HST.out]; rfl, by rw [HST.out]; exact H.out, Own.refl _ _, fun _ _ _ => rfl⟩
  · have e1 : decide ((0 : Int) < (d.await : Int)) = true := by simp; omega
    have e2 : decide (0 < d.await) = true := by simp; omega
    by_cases hx1 : d.await = 1
    · have hst : stepD d = (1, { d with await := 0, off := true }) := by simp [stepD, hx1]
      have f1 : _ = some (failV a 1) := (hF 1 (by decide)).2
      have hf1 := (hF 1 (by decide)).1
      have hfl := fun w => fail_calls (a := a) op s 0 w
      have hne : failG 1 ≠ A.p := by
        intro e
        have := h.low A.p (by rw [← e]; exact hf1)
        exact hp1 this
      have hblk2 : DBlk ((w.setCell ⟨A.p, 7, none⟩ (.int .i64 0)).setCell ⟨A.p, 6, none⟩ (.bool true)) A { d with await := 0, off := true } := by
        have h1 : DBlk (w.setCell ⟨A.p, 7, none⟩ (.int .i64 0)) A { d with await := 0 } := DBlk.set w h.blk rfl
        exact DBlk.set _ h1 rfl
      have hCD : CD B0 ((w.setCell ⟨A.p, 7, none⟩ (.int .i64 0)).setCell ⟨A.p, 6, none⟩ (.bool true)) R A { d with await := 0, off := true } :=
        h.blk_only (fun k _ hk => (Below.heap_setCell _ _ _ k hk).trans (Below.heap_setCell _ _ _ k hk)) (by simp [World.setCell]) hblk2 rfl rfl rfl rfl
      have hO : Own R R w ((w.setCell ⟨A.p, 7, none⟩ (.int .i64 0)).setCell ⟨A.p, 6, none⟩ (.bool true)) := (Own.of_set _ hp1).trans (Own.of_set _ hp1)
      have hfc : ((w.setCell ⟨A.p, 7, none⟩ (.int .i64 0)).setCell ⟨A.p, 6, none⟩ (.bool true)).cell? ⟨failG 1, 0, none⟩ = some (failV a 1) := by
        rw [← f1]
        exact World.cell?_of_block ((Below.heap_setCell _ _ _ _ hne).trans (Below.heap_setCell _ _ _ _ hne))
      have c7' := c7
      rw [hx1] at c7'
      have g6 := Blk.frozen h.blk 6
      have c6 : _ = some (Value.bool d.off) := Blk.cell h.blk 6
      unfold failV at hfc hfl
      simp only [failG] at hfc
      have hfar : ∀ w1 : World, Below ((w.setCell ⟨A.p, 7, none⟩ (.int .i64 0)).setCell ⟨A.p, 6, none⟩ (.bool true)).heap.size ((w.setCell ⟨A.p, 7, none⟩ (.int .i64 0)).setCell ⟨A.p, 6, none⟩ (.bool true)) w1 → ∀ k, k < w.heap.size → k ≠ A.p → w1.heap[k]? = w.heap[k]? :=
        fun w1 hb k hk hne => (hb.block k (by simp [World.setCell]; exact hk)).trans ((Below.heap_setCell _ _ _ k hne).trans (Below.heap_setCell _ _ _ k hne))
      have HFAR := Lib.hid hfar
      have HST := Lib.hid hst
      have HC := Lib.hid hCD
      have HO := Lib.hid hO
      have HFL := Lib.hid hfl
      obtain ⟨p, hp⟩ : ∃ p, A.p = p := ⟨_, rfl⟩
      have HPP := Lib.hid hp
      rw [hp] at c7' g7 g6 c6 hpl hfc HC HO HFAR ⊢
      clear hfar
      clear hst h h0 hp hp1 hF hfl hCD hO hblk2 f1 hf1 hne c7 e1 e2 hx1
      go_enter Tryz.func69, Tryz.ntmps69
      go_wp2_with fail
      refine (HFL.out _).mono ?_
      rintro e w1 ⟨v, rfl, hv, hb⟩
      have HV := Lib.hid hv
      clear hv
      go_wp2_with fail
      go_ret
      exact ⟨v, rfl, by rw [HST.out]; exact HV.out, by rw [HST.out]; exact HC.out.below hb, HO.out.trans (Own.of_below hb), by rw [HPP.out]; exact HFAR.out _ hb⟩
    · have hst : stepD d = (0, { d with await := d.await - 1 }) := by simp [stepD, h0, hx1]
      have hval : (Value.int .i64 ((d.await : Int) - 1)) = .int .i64 ((d.await - 1 : Nat) : Int) := vi (by omega)
      have hblk2 : DBlk (w.setCell ⟨A.p, 7, none⟩ (.int .i64 ((d.await : Int) - 1))) A { d with await := d.await - 1 } := DBlk.set w h.blk (by rw [hval]; rfl)
      have hCD : CD B0 (w.setCell ⟨A.p, 7, none⟩ (.int .i64 ((d.await : Int) - 1))) R A { d with await := d.await - 1 } :=
        h.blk_only (fun k _ hk => Below.heap_setCell _ _ _ k hk) (by simp [World.setCell]) hblk2 rfl rfl rfl rfl
      have hO : Own R R w (w.setCell ⟨A.p, 7, none⟩ (.int .i64 ((d.await : Int) - 1))) := Own.of_set _ hp1
      have HST := Lib.hid hst
      have HC := Lib.hid hCD
      have HO := Lib.hid hO
      have e3 : (((d.await : Int) - 1) == 0) = false := by simp; omega
      have hn2 : 2 ≤ d.await := by omega
      obtain ⟨n, hn⟩ : ∃ n, d.await = n := ⟨_, rfl⟩
      obtain ⟨p, hp⟩ : ∃ p, A.p = p := ⟨_, rfl⟩
      have HPP := Lib.hid hp
      have hr := HST.out
      rw [hn] at c7 e1 e2 e3 HC HO haw hn2 hr
      rw [hp] at c7 g7 hpl HC HO ⊢
      have HR := Lib.hid hr
      clear hst h h0 hp hp1 hF hCD hO hblk2 hx1 hval hn hr HST
      go_enter Tryz.func69, Tryz.ntmps69
      go_wp2_with fail
      go_ret
      exact ⟨_, rfl, by rw [HR.out]; rfl, by rw [HR.out]; exact HC.out, HO.out, fun k _ hne => Below.heap_setCell _ _ _ k (by rw [← HPP.out]; exact hne)⟩
end

/-! ### Off, Crash -/
set_option maxHeartbeats 400000 in
theorem off_calls (p : Nat) (off : Bool) (w : World) (hoff : w.cell? ⟨p, 6, none⟩ = some (.bool off)) :
    Calls Tryz.prog 26 #[.pointer (some ⟨p, 0, none⟩)] w fun e w' => e = .returned (.bool off) ∧ w = w' := by
  go_enter Tryz.func26, Tryz.ntmps26
  go_wp2_with fail
  go_ret
  exact ⟨rfl, rfl⟩
set_option maxHeartbeats 1000000 in
theorem crash_calls {B0 : Nat} {R : Nat → Nat} {A : Adr} {d : Ds} (n : Int) (w : World) (h : CD B0 w R A d) (hn : n ≤ 9223372036854775807) (hn' : -9223372036854775808 ≤ n) :
    Calls Tryz.prog 25 #[.pointer (some ⟨A.p, 0, none⟩), .int .i64 n] w fun e w' => e = .returned (.tuple #[]) ∧ CD B0 w' R A (crashD d n) ∧ Own R R w w' := by
  have c7 : _ = some (Value.int .i64 (d.await : Int)) := Blk.cell h.blk 7
  have g7 := Blk.frozen h.blk 7
  have hp1 : R A.p ≠ 0 := by rw [h.rp]; omega
  have hblk2 : ∀ v : Int, v = (n.toNat : Int) → DBlk (w.setCell ⟨A.p, 7, none⟩ (.int .i64 v)) A (crashD d n) := fun v hv => DBlk.set w h.blk (by rw [hv]; rfl)
  have hCD : ∀ v : Int, v = (n.toNat : Int) → CD B0 (w.setCell ⟨A.p, 7, none⟩ (.int .i64 v)) R A (crashD d n) := fun v hv =>
    h.blk_only (fun k _ hk => Below.heap_setCell _ _ _ k hk) (by simp [World.setCell]) (hblk2 v hv) rfl rfl rfl rfl
  have hO : ∀ v : Value, Own R R w (w.setCell ⟨A.p, 7, none⟩ v) := fun v => Own.of_set _ hp1
  have HC := Lib.hid hCD
  have HO := Lib.hid hO
  obtain ⟨p, hp⟩ : ∃ p, A.p = p := ⟨_, rfl⟩
  rw [hp] at c7 g7 HC HO ⊢
  clear h hp hp1 hCD hO hblk2
  by_cases hneg : n < 0
  · have e1 : decide ((0 : Int) < n) = false := by simp; omega
    have e2 : decide (n < 0) = true := by simpa using hneg
    have e3 : decide ((0 : Int) ≤ n) = false := by simp; omega
    have e4 : max 0 n = 0 := by omega
    go_enter Tryz.func25, Tryz.ntmps25
    go_wp2_with fail
    go_end0
    exact ⟨rfl, HC.out _ (by omega), HO.out _⟩
  · have e2 : decide (n < 0) = false := by simp; omega
    have e4 : max 0 n = n := by omega
    go_enter Tryz.func25, Tryz.ntmps25
    go_wp2_with fail
    go_end0
    exact ⟨rfl, HC.out _ (by omega), HO.out _⟩
end Go.Proofs.YtfpgbhimgfdddaaGreatDoor

/- The walks of layer 3 (disk): copies of a tree, New. -/
namespace Go.Proofs.YtfpgbhimgfdddaaGreatDoor
open Go.RowKit Go.Shelf
attribute [local go_sem ↓] Go.wp_at_zero Go.wp_at_succ
attribute [local go_sem] Later.cell Later.frozen

abbrev SM (w : World) (b : Nat) (f : Txt → Option Value) : Prop := SMap Tryz.prog 9 w b f
def CloneOut (w : World) (f : Txt → Option Value) (e : Ending) (w' : World) : Prop :=
  ∃ x, e = .returned (.map (some x)) ∧ SM w' x f ∧ w.heap.size ≤ x ∧ Below w.heap.size w w'
theorem cloneD_calls (b : Nat) (f : Txt → Option Value) (w : World) (h : SM w b f) : Calls Tryz.prog 103 #[.map (some b)] w (CloneOut w f) := by
  obtain ⟨D, h1, h2, h3⟩ := h
  have hcon := AnyW.maps_Clone_owns Tryz.cloneD 9 HR b (Maps.size D) D w h1
  change Calls Tryz.prog 103 _ _ _ at hcon
  refine hcon.mono ?_
  rintro e w' ⟨rfl, a1, _, a3⟩
  exact ⟨_, rfl, ⟨D, a1, h2, h3⟩, Nat.le_refl _, a3⟩
theorem cloneF_calls (b : Nat) (f : Txt → Option Value) (w : World) (h : SM w b f) : Calls Tryz.prog 104 #[.map (some b)] w (CloneOut w f) := by
  obtain ⟨D, h1, h2, h3⟩ := h
  have hcon := AnyW.maps_Clone_owns Tryz.cloneF 9 HR b (Maps.size D) D w h1
  change Calls Tryz.prog 104 _ _ _ at hcon
  refine hcon.mono ?_
  rintro e w' ⟨rfl, a1, _, a3⟩
  exact ⟨_, rfl, ⟨D, a1, h2, h3⟩, Nat.le_refl _, a3⟩

def TwinD (w : World) (f g : Txt → Option Value) (e : Ending) (w' : World) : Prop :=
  ∃ x y, e = .returned (.agg #[.map (some x), .map (some y)]) ∧ SM w' x f ∧ SM w' y g ∧ x ≠ y ∧ w.heap.size ≤ x ∧ w.heap.size ≤ y ∧ Below w.heap.size w w'
theorem twinS_of {md mf q : Nat} {w : World} (h : Blk w q 122 #[.map (some md), .map (some mf)]) : w.cell? ⟨q, 0, none⟩ = some (.map (some md)) ∧ w.cell? ⟨q, 1, none⟩ = some (.map (some mf)) := ⟨h.cell 0, h.cell 1⟩

set_option maxRecDepth 100000 in
set_option maxHeartbeats 2000000 in
theorem twinD_calls (md mf : Nat) (f g : Txt → Option Value) (w : World) (hd : SM w md f) (hf : SM w mf g) :
    Calls Tryz.prog 52 #[.agg #[.map (some md), .map (some mf)]] w (TwinD w f g) := by
  go_enter Tryz.func52, Tryz.ntmps52
  go_upto_region 1 with fail
  obtain ⟨w0, hw0⟩ : ∃ x, (w.alloc (.cells #[.map (some md), .map (some mf)] 122)).alloc (.cells #[.map none, .map none] 122) = x := ⟨_, rfl⟩
  have hb0 : Below w.heap.size w w0 := by rw [← hw0]; exact ((Below.refl _ _).alloc (Nat.le_refl _) _).alloc (by simp) _
  have hq : Blk w0 w.heap.size 122 #[.map (some md), .map (some mf)] := by rw [← hw0]; exact (Blk.new _ _ _).alloc _
  have hp : Blk w0 (w.heap.size + 1) 122 #[.map none, .map none] := by rw [← hw0]; exact Blk.newAt (by simp)
  have hd0 : SM w0.drew md f := hd.below hb0.drew hd.lt
  have hf0 : SM w0.drew mf g := hf.below hb0.drew hf.lt
  have hq0 : Blk w0.drew w.heap.size 122 #[.map (some md), .map (some mf)] := hq
  have hp0 : Blk w0.drew (w.heap.size + 1) 122 #[.map none, .map none] := hp
  rw [hw0]
  obtain ⟨q, hqq⟩ : ∃ a, w.heap.size = a := ⟨_, rfl⟩
  have hB0 : Below w.heap.size w w0.drew := hb0.drew
  rw [hqq] at hq0 hp0 ⊢
  clear hw0 hq hp hb0
  have hqp : q ≠ q + 1 := by omega
  go_region_held3 (fun w' => w'.cell? ⟨q, 0, none⟩ = some (.map (some md)) ∧ w'.cell? ⟨q, 1, none⟩ = some (.map (some mf)))
    (first | exact twinS_of hq0 | exact twinS_of hq2 | exact twinS_of hq1 | exact twinS_of ((hq2.far (by simp) _).far (by simp) _) | go_keep)
    (first
      | (go_at_call 103; refine (cloneD_calls md f w0.drew hd0).mono ?_; rintro e w1 ⟨x, rfl, hx, hxl, hb1⟩; have hq1 := hq0.below hb1 hq0.lt)
      | (go_at_call 104; refine (cloneF_calls mf g w1 (hf0.below hb1 hf0.lt)).mono ?_; rintro e w2 ⟨y, rfl, hy, hyl, hb2⟩; have hq2 := hq1.below hb2 hq1.lt; have hp2 := (hp0.below hb1 hp0.lt).below hb2 (hp0.below hb1 hp0.lt).lt; have k0 : _ = some (Value.map none) := hp2.cell 0; have k1 : _ = some (Value.map none) := hp2.cell 1; have g0 := hp2.frozen 0; have g1 := hp2.frozen 1)
      | (go_at_call 104; refine (cloneF_calls mf g w0.drew hf0).mono ?_; rintro e w1 ⟨y, rfl, hy, hyl, hb1⟩; have hq1 := hq0.below hb1 hq0.lt)
      | (go_at_call 103; refine (cloneD_calls md f w1 (hd0.below hb1 hd0.lt)).mono ?_; rintro e w2 ⟨x, rfl, hx, hxl, hb2⟩; have hq2 := hq1.below hb2 hq1.lt; have hp2 := (hp0.below hb1 hp0.lt).below hb2 (hp0.below hb1 hp0.lt).lt; have k0 : _ = some (Value.map none) := hp2.cell 0; have k1 : _ = some (Value.map none) := hp2.cell 1; have g0 := hp2.frozen 0; have g1 := hp2.frozen 1))
  all_goals
    have hX : SM w2 x f := by first | exact hx | exact hx.below hb2 hx.lt
    have hY : SM w2 y g := by first | exact hy | exact hy.below hb2 hy.lt
    have hl1 := hp0.lt
    have hxy : x ≠ y := by have h1 := SMap.lt hx; have h2 := SMap.lt hy; omega
    have hs1 := hb1.size
    have hx1 : w0.drew.heap.size ≤ x := by omega
    have hy1 : w0.drew.heap.size ≤ y := by omega
    have hX3 : SM ((w2.setCell ⟨q + 1, 0, none⟩ (.map (some x))).setCell ⟨q + 1, 1, none⟩ (.map (some y))) x f := hX.same ((Below.heap_setCell _ _ _ _ (by simp; omega)).trans (Below.heap_setCell _ _ _ _ (by simp; omega)))
    have hY3 : SM ((w2.setCell ⟨q + 1, 0, none⟩ (.map (some x))).setCell ⟨q + 1, 1, none⟩ (.map (some y))) y g := hY.same ((Below.heap_setCell _ _ _ _ (by simp; omega)).trans (Below.heap_setCell _ _ _ _ (by simp; omega)))
    have hp3 : Blk ((w2.setCell ⟨q + 1, 0, none⟩ (.map (some x))).setCell ⟨q + 1, 1, none⟩ (.map (some y))) (q + 1) 122 #[.map (some x), .map (some y)] := (hp2.set_ 0 _).set_ 1 _
    have hB3 : Below w.heap.size w ((w2.setCell ⟨q + 1, 0, none⟩ (.map (some x))).setCell ⟨q + 1, 1, none⟩ (.map (some y))) := ((then_ (then_ hB0 hb1) hb2).setCell (by simp; omega) _).setCell (by simp; omega) _
    have hsz := hB0.size
    obtain ⟨w3, hw3⟩ : ∃ w3, (w2.setCell ⟨q + 1, 0, none⟩ (.map (some x))).setCell ⟨q + 1, 1, none⟩ (.map (some y)) = w3 := ⟨_, rfl⟩
    rw [hw3] at hX3 hY3 hp3 hB3 ⊢
    have m0 : _ = some (Value.map (some x)) := hp3.cell 0
    have m1 : _ = some (Value.map (some y)) := hp3.cell 1
    have hO : TwinD w f g (.returned (.agg #[.map (some x), .map (some y)])) w3 := ⟨x, y, rfl, hX3, hY3, hxy, by omega, by omega, hB3⟩
    have HO := Lib.hid hO
    clear hX hY hx hy hX3 hY3 hB3 hO hb1 hb2 hq0 hp0 hp2 k0 k1 g0 g1 hd0 hf0 hw3 hB0 hq1 hq2 hxy hx1 hy1 hxl hyl hs1 hl1 hsz hqp hd hf hp3
    go_wp2_with fail
    exact bodyPost_ret (v := .agg #[.map (some x), .map (some y)]) (by simp [results, Tryz.results52, go_sem, m0, m1]) rfl HO.out

/-- A disk that is new. -/
def NewOut (B0 : Nat) (n : Int) (w : World) (e : Ending) (w' : World) : Prop :=
  ∃ R A, e = .returned (.pointer (some ⟨A.p, 0, none⟩)) ∧ CD B0 w' R A (newD n) ∧ Below w.heap.size w w' ∧ ∀ k, R k ≠ 0 → w.heap.size ≤ k
def newR (B x y k : Nat) : Nat := if k = B + 2 then 1 else if k = B then 2 else if k = B + 1 then 3 else if k = x then 4 else if k = y then 6 else 0
theorem dirF_nil : dirF [] = fun _ => none := by funext x; simp [dirF]
theorem filF_nil (φ : List Nat) : filF φ [] = fun _ => none := by funext x; simp [filF]
set_option maxRecDepth 100000 in
set_option maxHeartbeats 2000000 in
theorem new_calls (B0 : Nat) (n : Int) (w : World) (hB : B0 ≤ w.heap.size) (hn : n ≤ 9223372036854775807) (hn' : -9223372036854775808 ≤ n) :
    Calls Tryz.prog 11 #[.int .i64 n] w (NewOut B0 n w) := by
  have hmm := @run_makeMap Tryz.prog
  have key : ∀ c : Int, c = ((newD n).cap : Int) → ∀ W : World, W = ((w.alloc (.map #[] 0)).alloc (.map #[] 0)).alloc (.cells #[.map (some w.heap.size), .map (some (w.heap.size + 1)), .map none, .map none, .slice none 0 0, .int .i64 c, .bool false, .int .i64 0] 125) →
      ∀ e W', TwinD W (fun _ => none) (fun _ => none) e W' → ∃ x y, e = .returned (.agg #[.map (some x), .map (some y)]) ∧ Blk W' (w.heap.size + 2) 125 #[.map (some w.heap.size), .map (some (w.heap.size + 1)), .map none, .map none, .slice none 0 0, .int .i64 c, .bool false, .int .i64 0] ∧
        NewOut B0 n w (.returned (.pointer (some ⟨w.heap.size + 2, 0, none⟩))) ((W'.setCell ⟨w.heap.size + 2, 2, none⟩ (.map (some x))).setCell ⟨w.heap.size + 2, 3, none⟩ (.map (some y))) := by
    rintro c hc W rfl e W' ⟨x, y, rfl, hx, hy, hxy, hxl, hyl, hb⟩
    have m1 : SM (w.alloc (.map #[] 0)) w.heap.size fun _ => none := SMap.made w
    have m2 : SM ((w.alloc (.map #[] 0)).alloc (.map #[] 0)) (w.heap.size + 1) fun _ => none := by
      have := SMap.made (P := Tryz.prog) (K := 9) (w.alloc (.map #[] 0))
      simpa using this
    have m1' := m1.grown (World.grownBy_alloc _ (.map #[] 0) none) (by simp)
    have hblk : Blk (((w.alloc (.map #[] 0)).alloc (.map #[] 0)).alloc (.cells #[.map (some w.heap.size), .map (some (w.heap.size + 1)), .map none, .map none, .slice none 0 0, .int .i64 c, .bool false, .int .i64 0] 125)) (w.heap.size + 2) 125 #[.map (some w.heap.size), .map (some (w.heap.size + 1)), .map none, .map none, .slice none 0 0, .int .i64 c, .bool false, .int .i64 0] := Blk.newAt (by simp)
    have m1'' := m1'.grown (World.grownBy_alloc _ (.cells #[.map (some w.heap.size), .map (some (w.heap.size + 1)), .map none, .map none, .slice none 0 0, .int .i64 c, .bool false, .int .i64 0] 125) none) (by simp)
    have m2'' := m2.grown (World.grownBy_alloc _ (.cells #[.map (some w.heap.size), .map (some (w.heap.size + 1)), .map none, .map none, .slice none 0 0, .int .i64 c, .bool false, .int .i64 0] 125) none) (by simp)
    have hsz : (((w.alloc (.map #[] 0)).alloc (.map #[] 0)).alloc (.cells #[.map (some w.heap.size), .map (some (w.heap.size + 1)), .map none, .map none, .slice none 0 0, .int .i64 c, .bool false, .int .i64 0] 125)).heap.size = w.heap.size + 3 := by simp
    have hB1 : Below w.heap.size w (((w.alloc (.map #[] 0)).alloc (.map #[] 0)).alloc (.cells #[.map (some w.heap.size), .map (some (w.heap.size + 1)), .map none, .map none, .slice none 0 0, .int .i64 c, .bool false, .int .i64 0] 125)) := (((Below.refl _ _).alloc (Nat.le_refl _) _).alloc (by simp) _).alloc (by simp; omega) _
    obtain ⟨W, hW⟩ : ∃ W, ((w.alloc (.map #[] 0)).alloc (.map #[] 0)).alloc (.cells #[.map (some w.heap.size), .map (some (w.heap.size + 1)), .map none, .map none, .slice none 0 0, .int .i64 c, .bool false, .int .i64 0] 125) = W := ⟨_, rfl⟩
    rw [hW] at hblk m1'' m2'' hsz hB1 hb hxl hyl
    have hblk' := hblk.below hb hblk.lt
    have n1 := m1''.below hb m1''.lt
    have n2 := m2''.below hb m2''.lt
    rw [hsz] at hxl hyl
    refine ⟨x, y, rfl, hblk', ?_⟩
    obtain ⟨B, hBw⟩ : ∃ B, w.heap.size = B := ⟨_, rfl⟩
    have hx1 := SMap.lt hx
    have hy1 := SMap.lt hy
    have hBW : Below w.heap.size w W' := hB1.trans (hb.mono (by omega))
    rw [hBw] at hblk' n1 n2 hxl hyl hB ⊢
    have hset : ∀ k, k ≠ B + 2 → ((W'.setCell ⟨B + 2, 2, none⟩ (.map (some x))).setCell ⟨B + 2, 3, none⟩ (.map (some y))).heap[k]? = W'.heap[k]? := fun k hk => (Below.heap_setCell _ _ _ _ hk).trans (Below.heap_setCell _ _ _ _ hk)
    have hsizes : ((W'.setCell ⟨B + 2, 2, none⟩ (.map (some x))).setCell ⟨B + 2, 3, none⟩ (.map (some y))).heap.size = W'.heap.size := by simp [World.setCell]
    have hb3 := hblk'.lt
    refine ⟨newR B x y, ⟨B + 2, B, B + 1, x, y, .slice none 0 0, []⟩, rfl, ?_, ?_, ?_⟩
    · exact {
        blk := by
          have h3 := (hblk'.set_ 2 (.map (some x))).set_ 3 (.map (some y))
          rw [hc] at h3
          exact h3
        rp := by simp [newR]
        dirs := ⟨by rw [show (newD n).things = [] from rfl, dirF_nil]; exact n1.same (hset B (by omega)), by simp [newR]⟩
        files := ⟨by rw [show (newD n).things = [] from rfl, filF_nil]; exact n2.same (hset _ (by omega)), by simp [newR]⟩
        sdirs := ⟨by rw [show (newD n).safe = [] from rfl, dirF_nil]; exact hx.same (hset _ (by omega)), by show newR B x y x = 4; unfold newR; (repeat' split) <;> omega⟩
        sfiles := ⟨by rw [show (newD n).safe = [] from rfl, filF_nil]; exact hy.same (hset _ (by omega)), by show newR B x y y = 6; unfold newR; (repeat' split) <;> omega⟩
        steps := ⟨[], RowIs.nil, rfl, fun i s f hs => by simp [newD] at hs⟩
        bytes := ⟨rfl, fun i b f hb => by simp at hb⟩
        inw := fun k hk => by
          rw [hsizes]
          unfold newR at hk
          repeat' split at hk
          all_goals omega
        low := fun k hk => by
          unfold newR
          repeat' split
          all_goals omega }
    · exact (hBW.setCell (by simp; omega) _).setCell (by simp; omega) _
    · intro k hk
      unfold newR at hk
      repeat' split at hk
      all_goals omega
  have hcap : ((newD n).cap : Int) = max 0 (min n 67108864) := by simp only [newD]; omega
  have KEY := Lib.hid key
  have HCAP := Lib.hid hcap
  clear key hcap
  have htw := fun W => twinD_calls w.heap.size (w.heap.size + 1) (fun _ => none) (fun _ => none) W
  have HTW := Lib.hid htw
  clear htw
  have hmade : ∀ c : Value, SM (((w.alloc (.map #[] 0)).alloc (.map #[] 0)).alloc (.cells #[.map (some w.heap.size), .map (some (w.heap.size + 1)), .map none, .map none, .slice none 0 0, c, .bool false, .int .i64 0] 125)) w.heap.size (fun _ => none) ∧ SM (((w.alloc (.map #[] 0)).alloc (.map #[] 0)).alloc (.cells #[.map (some w.heap.size), .map (some (w.heap.size + 1)), .map none, .map none, .slice none 0 0, c, .bool false, .int .i64 0] 125)) (w.heap.size + 1) (fun _ => none) := by
    intro c
    have m1 : SM (w.alloc (.map #[] 0)) w.heap.size fun _ => none := SMap.made w
    have m2 : SM ((w.alloc (.map #[] 0)).alloc (.map #[] 0)) (w.heap.size + 1) fun _ => none := by
      have := SMap.made (P := Tryz.prog) (K := 9) (w.alloc (.map #[] 0))
      simpa using this
    exact ⟨(m1.grown (World.grownBy_alloc _ (.map #[] 0) none) (by simp)).grown (World.grownBy_alloc _ _ none) (by simp), m2.grown (World.grownBy_alloc _ _ none) (by simp)⟩
  have HM := Lib.hid hmade
  clear hmade
  by_cases h0 : n < 0
  · have e1 : min n 67108864 = n := by omega
    have e2 : max 0 n = 0 := by omega
    have d1 : decide (n < 67108864) = true := by simp; omega
    have d2 : decide (67108864 < n) = false := by simp; omega
    have d3 : decide (n < 0) = true := by simp; omega
    have d4 : decide (0 < n) = false := by simp; omega
    have HC := Lib.hid (show (0 : Int) = ((newD n).cap : Int) by rw [HCAP.out]; omega)
    go_enter Tryz.func11, Tryz.ntmps11
    go_wp2_with fail
    refine (HTW.out _ (HM.out _).1 (HM.out _).2).mono ?_
    rintro e W' hO
    obtain ⟨x, y, rfl, hblk, hN⟩ := KEY.out 0 HC.out _ rfl e W' hO
    have k2 : _ = some (Value.map none) := hblk.cell 2
    have k3 : _ = some (Value.map none) := hblk.cell 3
    have g2 := hblk.frozen 2
    have g3 := hblk.frozen 3
    have HN := Lib.hid hN
    clear hN hO hblk
    go_wp2_with fail
    go_ret
    exact HN.out
  · by_cases h1 : n < 67108864
    · have e1 : min n 67108864 = n := by omega
      have e2 : max 0 n = n := by omega
      have d1 : decide (n < 67108864) = true := by simp; omega
      have d2 : decide (67108864 < n) = false := by simp; omega
      have d3 : decide (n < 0) = false := by simp; omega
      have HC := Lib.hid (show n = ((newD n).cap : Int) by rw [HCAP.out]; omega)
      go_enter Tryz.func11, Tryz.ntmps11
      go_wp2_with fail
      refine (HTW.out _ (HM.out _).1 (HM.out _).2).mono ?_
      rintro e W' hO
      obtain ⟨x, y, rfl, hblk, hN⟩ := KEY.out n HC.out _ rfl e W' hO
      have k2 : _ = some (Value.map none) := hblk.cell 2
      have k3 : _ = some (Value.map none) := hblk.cell 3
      have g2 := hblk.frozen 2
      have g3 := hblk.frozen 3
      have HN := Lib.hid hN
      clear hN hO hblk
      go_wp2_with fail
      go_ret
      exact HN.out
    · have e1 : min n 67108864 = 67108864 := by omega
      have d1 : decide (n < 67108864) = false := by simp; omega
      have d5 : decide (67108864 ≤ n) = true := by simp; omega
      have HC := Lib.hid (show (67108864 : Int) = ((newD n).cap : Int) by rw [HCAP.out]; omega)
      go_enter Tryz.func11, Tryz.ntmps11
      go_wp2_with fail
      refine (HTW.out _ (HM.out _).1 (HM.out _).2).mono ?_
      rintro e W' hO
      obtain ⟨x, y, rfl, hblk, hN⟩ := KEY.out 67108864 HC.out _ rfl e W' hO
      have k2 : _ = some (Value.map none) := hblk.cell 2
      have k3 : _ = some (Value.map none) := hblk.cell 3
      have g2 := hblk.frozen 2
      have g3 := hblk.frozen 3
      have HN := Lib.hid hN
      clear hN hO hblk
      go_wp2_with fail
      go_ret
      exact HN.out
end Go.Proofs.YtfpgbhimgfdddaaGreatDoor

/- The walks of layer 3 (disk): the names in a directory; the steps that a closure holds. -/
namespace Go.Proofs.YtfpgbhimgfdddaaGreatDoor
open Go.RowKit Go.Shelf Go.Maps Go.Sort
attribute [local go_sem ↓] Go.wp_at_zero Go.wp_at_succ
attribute [local go_sem] Later.cell Later.frozen

theorem law3 : Keyed Tryz.prog 9 := string_keyed Tryz.underlying9
theorem zeroI (w : World) : (zeroValue 3).run Tryz.prog w = .ok (.int .i64 0) w := by kernel_rfl
theorem zeroFl (w : World) : (zeroValue 140).run Tryz.prog w = .ok (.pointer none) w := by kernel_rfl

def WithinOut (w : World) (f : Txt → Option Value) (dir : Txt) (e : Ending) (w' : World) : Prop :=
  ∃ (A : Option Addr) (c : Nat) (bs : List Txt), e = .returned (.slice A bs.length c) ∧ Strs w' A bs.length bs ∧ bs.length ≤ c ∧ Asc bs ∧ (∀ x, x ∈ bs ↔ (f (dir ++ [47] ++ x)).isSome = true) ∧ Below w.heap.size w w'
theorem prefix_iff {k p : Txt} : Lib.hasPrefix k p = true ↔ ∃ x, k = p ++ x := by
  unfold Lib.hasPrefix
  rw [List.isPrefixOf_iff_prefix]
  constructor
  · rintro ⟨x, h⟩; exact ⟨x, h.symm⟩
  · rintro ⟨x, h⟩; exact ⟨x, h.symm⟩
theorem trim_of {p x : Txt} : Lib.trimPrefix (p ++ x) p = x := by
  unfold Lib.trimPrefix
  rw [if_pos (prefix_iff.2 ⟨x, rfl⟩)]
  simp
theorem same_str {x y : Txt} : (Lit.string x).sameKey (.string y) = true ↔ x = y := by simp [Lit.sameKey]
theorem out_len {dir : Txt} {out L : List Txt} (hn : out.Nodup) (h : ∀ x ∈ out, dir ++ [47] ++ x ∈ L) : out.length ≤ L.length := by
  have := nodup_len (out.map fun x => dir ++ [47] ++ x) L (nodup_map_inj hn fun x _ y _ e => app_cancel e) (by
    intro x hx
    obtain ⟨y, hy, rfl⟩ := List.mem_map.1 hx
    exact h y hy)
  simpa using this
theorem dir_bytes (d : ByteArray) : (d ++ (⟨#[47]⟩ : ByteArray)).data.toList = d.data.toList ++ [47] := by simp

set_option maxRecDepth 100000 in
set_option maxHeartbeats 4000000 in
theorem within_calls (md mf : Option Nat) (b : Nat) (hmf : mf = some b) (f : Txt → Option Value) (dir : ByteArray) (w : World) (h : SM w b f) (L : List Txt) (hL : ∀ x, (f x).isSome = true → x ∈ L) (hn : L.length ≤ 1073741824) (hdz : dir.size ≤ 1073741824) (hz : ∀ x ∈ L, x.length ≤ 1073741824) :
    Calls Tryz.prog 82 #[.agg #[.map md, .map mf], .string dir] w (WithinOut w f dir.data.toList) := by
  obtain ⟨i0, hi0, hz0, hz1, hz2⟩ := info_parts info_string
  subst hmf
  obtain ⟨D, hown, hhas, hat⟩ := h
  have hsize := SMap.size_le Tryz.underlying9 hown L (fun x hx => hL x (by rw [← hhas]; exact hx))
  have HHAS := Lib.hid hhas
  have HAT := Lib.hid hat
  have HL := Lib.hid hL
  have HZ := Lib.hid hz
  clear hhas hat hL hz
  have hbl := hown.lt
  go_enter Tryz.func82, Tryz.ntmps82
  go_upto_region 2 with fail
  have hown1 := hown.alloc (.cells #[.map md, .map (some b)] 122)
  have hB1 : Below w.heap.size w (w.alloc (.cells #[.map md, .map (some b)] 122)) := (Below.refl _ _).alloc (Nat.le_refl _) _
  have hq : Blk (w.alloc (.cells #[.map md, .map (some b)] 122)) w.heap.size 122 #[.map md, .map (some b)] := Blk.new _ _ _
  obtain ⟨w1, hw1⟩ : ∃ x, w.alloc (.cells #[.map md, .map (some b)] 122) = x := ⟨_, rfl⟩
  rw [hw1] at hown1 hB1 hq ⊢
  have q1 : _ = some (Value.map (some b)) := hq.cell 1
  clear hw1
  go_wp2_with (at_range; refine wpList_range_own _ rfl _ 120 rfl 9 140 law3 Tryz.underlying120 HR b (Maps.size D) D rfl hown1 ?_; intro w0 hrg0 hg0 hs0)
  obtain ⟨r, hr⟩ : ∃ r, w1.heap.size = r := ⟨_, rfl⟩
  have hB0 : Below w.heap.size w w0 := hB1.trans ⟨hg0.os, hg0.tape, hg0.output, hg0.size, fun k hk => hg0.block k (by have := hB1.size; omega) (by simp)⟩
  have hrl : w.heap.size ≤ r := by rw [← hr]; exact hB1.size
  rw [hr] at hrg0 ⊢
  clear hr hs0
  go_frame
  go_loopg [5] (Maps.size D) (fun g s5 wr => ∃ (left : Lit → Bool) (cnt : Nat) (out : List Txt) (v5 : Value), v5 = s5 ∧ cnt ≤ g ∧ wr.ranges Tryz.prog 9 HR b r (Maps.size D) D left cnt ∧ wr.ownsRow (r + 1) 9 1 v5 out.length (out.map txtV) ∧ out.Nodup ∧ (∀ x, x ∈ out ↔ (f (dir.data.toList ++ [47] ++ x)).isSome = true ∧ left (.string (dir.data.toList ++ [47] ++ x)) = false) ∧ Below w.heap.size w wr)
  case atStart =>
    refine ⟨Maps.has D, Maps.size D, [], _, rfl, Nat.le_refl _, hrg0, World.ownsRow_nil _ _ _ _, List.nodup_nil, fun x => ?_, hB0⟩
    rw [HHAS.out (dir.data.toList ++ [47] ++ x)]
    cases (f (dir.data.toList ++ [47] ++ x)).isSome <;> simp
  case round =>
    obtain ⟨left, cnt, out, v5, rfl, hcg, hrg, hrow, hnd, hout, hB⟩ := hrel
    have HOUT := Lib.hid hout
    have hol : out.length ≤ 1073741824 := Nat.le_trans (out_len hnd fun x hx => HL.out _ ((HOUT.out x).1 hx).1) hn
    clear hout
    go_wp2_with (at_next; refine wpList_next_ranges _ rfl _ rfl 9 law3 HR Value.string (fun v : Value => v) (fun key kl hk => by obtain ⟨x, e, _⟩ := Maps.keyOf_str Tryz.underlying9 hk; exact ⟨_, e⟩) (fun v _ _ => ⟨v, rfl⟩) b r (Maps.size D) D left cnt rfl hrg ?_ ?_)
    · intro hc0 hl0
      have hout2 : ∀ x, x ∈ out ↔ (f (dir.data.toList ++ [47] ++ x)).isSome = true := fun x => by rw [HOUT.out x, hl0]; simp
      have HO2 := Lib.hid hout2
      have HND := Lib.hid hnd
      have HL0 := Lib.hid hl0
      clear hout2 hl0 hnd hc0
      obtain ⟨A, c, rfl, hs, hbase, hcc⟩ := Strs.of_own hrow rfl
      obtain ⟨m, hm⟩ : ∃ m, out.length = m := ⟨_, rfl⟩
      have HM := Lib.hid hm
      rw [hm] at hs hcc hrow hol ⊢
      clear hm
      by_cases hm0 : m = 0
      · subst hm0
        obtain rfl : out = [] := List.eq_nil_of_length_eq_zero HM.out
        go_wp2_with fail
        refine (Tryz.slices_Sort_string_none A c wr).mono ?_
        rintro e w3 ⟨rfl, rfl⟩
        go_wp2_with fail
        go_ret
        exact ⟨A, c, [], rfl, Strs.nil, Nat.zero_le _, List.Pairwise.nil, HO2.out, hB⟩
      · obtain ⟨g, rfl⟩ : ∃ g, A = some ⟨g, 0, none⟩ := by
          rcases hrow.2 with ⟨h1, h2⟩ | ⟨g, cap, cur, h1, _⟩
          · exact absurd h2 hm0
          · injection h1 with h1; exact ⟨g, h1⟩
        have hglt := hrow.lt g rfl
        have hsort := Tryz.slices_Sort_string g 0 c out wr (holds_own hrow HM.out) hglt.2 (by rw [HM.out]; omega)
        rw [HM.out] at hsort
        have HS := Lib.hid hsort
        clear hsort
        go_wp2_with fail
        refine HS.out.mono ?_
        rintro e w3 ⟨rfl, q, os, hw3⟩
        obtain ⟨z, hz⟩ : ∃ z, out.mergeSort (fun x y => decide (x ≤ y)) = z := ⟨_, rfl⟩
        rw [hz] at hw3
        have hzl : z.length = out.length := by rw [← hz, List.length_mergeSort]
        have hperm : z.Perm out := by rw [← hz]; exact List.mergeSort_perm out _
        have hasc : Asc z := by
          have h1 : z.Pairwise (fun a b => a ≤ b) := by
            have := List.pairwise_mergeSort (le := fun x y : Txt => decide (x ≤ y)) (by intro a b c; simp; exact List.le_trans) (by intro a b; simp; exact List.le_total a b) out
            rw [hz] at this
            simpa using this
          unfold Asc
          refine (h1.and ((hperm.nodup_iff).2 HND.out)).imp ?_
          rintro a b ⟨h1, h2⟩
          exact txt_lt_ne h1 (Ne.symm h2)
        have hcur : ∃ cur, wr.heap[g]? = some (.cells cur 9 (0, 0)) ∧ cur.size = c * 1 ∧ c ≤ maxLen := by
          rcases hrow.2 with ⟨e, _⟩ | ⟨g', cap', cur, e, _, hh, _, hcm, hsz, _⟩
          · cases e
          · injection e with e e2 e3
            injection e with e
            injection e with e
            subst e e3
            exact ⟨cur, hh, hsz, hcm⟩
        obtain ⟨cur, hcur1, hcur2, hcm⟩ := hcur
        have hown2 : w3.ownsRow (r + 1) 9 1 (.slice (some ⟨g, 0, none⟩) m c) m (z.map txtV) := by
          have := ownsRow_sorted (n := q) (os := os) (ss := out) (ts := z) (base := r + 1) (cap := c) hzl hglt.1 hcur1 (by rw [HM.out]; exact hcc) hcm hcur2
          rw [← hw3, HM.out] at this
          exact this
        have hg3 : wr.grownBy w3 (some g) := by rw [hw3]; exact grownBy_sorted _
        have hB3 : Below w.heap.size w w3 := hB.trans (own_grown hB.size hg3 (by have := hglt.1; omega))
        obtain ⟨A4, c4, e4, hs4, _, hc4⟩ := Strs.of_own hown2 (by rw [hzl, HM.out])
        injection e4 with e4 e5 e6
        subst e4 e6
        have hfin : WithinOut w f dir.data.toList (.returned (.slice (some ⟨g, 0, none⟩) m c)) w3 := by
          refine ⟨some ⟨g, 0, none⟩, c, z, by rw [hzl, HM.out], by rw [hzl, HM.out]; exact hs4, by rw [hzl, HM.out]; exact hcc, hasc, fun x => ?_, hB3⟩
          rw [hperm.mem_iff]
          exact HO2.out x
        have HFIN := Lib.hid hfin
        clear hfin hs4 hown2 hg3 hB3 hcur1 hcur2 hcm hasc hperm hzl hz hw3 hrow hs HS hrg
        go_wp2_with fail
        go_ret
        exact HFIN.out
    · intro x c kl y y2 w2 cnt2 hkx hlk hv hat2 hrg2 hlt hg2 hs2 hen
      clear hs2
      obtain ⟨k, e1, rfl, _⟩ := Maps.keyOf_str Tryz.underlying9 hkx
      have hxk : x.data.toList = k := by
        have : (Value.string x) = encStr k := e1
        unfold encStr at this
        injection this with this
        rw [this]
      have hfk : (f k).isSome = true := by rw [← HHAS.out k]; exact Maps.has_true_of_atKey hat2
      have hkz : x.size ≤ 1073741824 := by rw [← text_size3, hxk]; exact HZ.out k (HL.out k hfk)
      have hB2 : Below w.heap.size w w2 := hB.trans ⟨hg2.os, hg2.tape, hg2.output, hg2.size, fun j hj => hg2.block j (by have := hB.size; omega) (fun e => by injection e with e; omega)⟩
      have hrow2 : w2.ownsRow (r + 1) 9 1 v5 out.length (out.map txtV) := hrow.kept hg2 (.inr fun e => by
        have := (hrow.lt r e).1
        omega)
      have hleft : ∀ z : Txt, ((left (.string z) && !(Lit.string z).sameKey (.string k)) = false) ↔ (left (.string z) = false ∨ z = k) := by
        intro z
        cases h1 : left (.string z) with
        | false => simp
        | true =>
          rw [Bool.true_and]
          constructor
          · intro h2
            right
            exact same_str.1 (by simpa using h2)
          · rintro (h2 | h2)
            · cases h2
            · rw [same_str.2 h2]; rfl
      have HLEFT := Lib.hid hleft
      have HLK := Lib.hid hlk
      have HXK := Lib.hid hxk
      have HFK := Lib.hid hfk
      have hcut := Tryz.strings_CutPrefix x (dir ++ (⟨#[47]⟩ : ByteArray)) w2
      rw [hxk, dir_bytes] at hcut
      have HND := Lib.hid hnd
      by_cases hp : Lib.hasPrefix k (dir.data.toList ++ [47]) = true
      · obtain ⟨s, rfl⟩ := prefix_iff.1 hp
        rw [hp, trim_of] at hcut
        obtain ⟨S, hS⟩ : ∃ S : ByteArray, (⟨s.toArray⟩ : ByteArray) = S := ⟨_, rfl⟩
        rw [hS] at hcut
        have HS := Lib.hid hS
        have HC := Lib.hid hcut
        have hnot : s ∉ out := by
          intro hm
          have := ((HOUT.out s).1 hm).2
          rw [HLK.out] at this
          cases this
        have hnd' : (out ++ [s]).Nodup := by
          rw [List.nodup_append]
          refine ⟨hnd, by simp, ?_⟩
          intro p hpo q hq
          simp at hq
          subst hq
          intro e
          exact hnot (e ▸ hpo)
        have hout' : ∀ z, z ∈ out ++ [s] ↔ (f (dir.data.toList ++ [47] ++ z)).isSome = true ∧ (left (.string (dir.data.toList ++ [47] ++ z)) && !(Lit.string (dir.data.toList ++ [47] ++ z)).sameKey (.string (dir.data.toList ++ [47] ++ s))) = false := by
          intro z
          rw [List.mem_append, HOUT.out z, HLEFT.out, List.mem_singleton]
          constructor
          · rintro (⟨h1, h2⟩ | rfl)
            · exact ⟨h1, .inl h2⟩
            · exact ⟨HFK.out, .inr rfl⟩
          · rintro ⟨h1, h2 | h2⟩
            · exact .inl ⟨h1, h2⟩
            · exact .inr (app_cancel h2)
        have hol2 : (out ++ [s]).length ≤ 1073741824 := Nat.le_trans (out_len (dir := dir.data.toList) hnd' fun z hz => HL.out _ ((hout' z).1 hz).1) hn
        rw [List.length_append] at hol2
        simp only [List.length_singleton] at hol2
        obtain ⟨m, hm⟩ : ∃ m, out.length = m := ⟨_, rfl⟩
        have HM := Lib.hid hm
        rw [hm] at hrow2 hol2
        have HND2 := Lib.hid hnd'
        have HOUT2 := Lib.hid hout'
        have hr2 : r + 1 ≤ w2.heap.size := hrg2.lt
        clear hcut hS hnot hnd' hout' hm hp hnd hlk hfk hxk hleft hrow hrg hkx e1 hat2 hv hg2
        go_wp2_with fail
        refine HC.out.mono ?_
        rintro e w3 ⟨rfl, rfl⟩
        go_wp2_with (at_builtin; refine wpList_append_own_at _ rfl _ _ 78 rfl (r + 1) 9 i0 (.string ⟨#[]⟩) 1 16 Tryz.underlying78 hi0 hz0 hz1 hz2 rfl (by decide) _ _ _ rfl (hrow2.alloc _) ⟨w3.heap.size, 0, none⟩ 1 1 [.string S] rfl rfl ?p1 ?p2 ?p3 ?p4 ?p5 ?_)
        case p1 => exact news_of_blk (l := [.string S]) (Blk.new w3 _ _)
        case p2 => intro u hu; rw [List.mem_singleton.1 hu]; rfl
        case p3 => unfold maxLen; omega
        case p4 => omega
        case p5 => simp; omega
        intro v' w4 hown' hgrow _ _
        have hall : w3.grownBy w4 v5.ownBlock := (World.grownBy_alloc w3 _ _).trans hgrow
        have hB4 : Below w.heap.size w w4 := hB2.trans ⟨hall.os, hall.tape, hall.output, hall.size, fun j hj => hall.block j (by have := hB2.size; omega) (fun e => by have := (hrow2.lt j e.symm).1; omega)⟩
        have hrg4 := hrg2.kept hall (fun e => by have := (hrow2.lt b e.symm).1; omega) (fun e => by have := (hrow2.lt r e.symm).1; omega)
        have hrow4 : w4.ownsRow (r + 1) 9 1 v' (out ++ [s]).length ((out ++ [s]).map txtV) := by
          have e1 : (out ++ [s]).map txtV = out.map txtV ++ [.string S] := by rw [List.map_append]; simp [txtV, HS.out]
          rw [e1, List.length_append, HM.out]
          exact hown'
        clear hown' hgrow hall hrow2 hrg2
        go_wp2_with fail
        go_roundg (gk - 1)
        case measure => omega
        case rel => exact ⟨_, cnt2, out ++ [s], _, rfl, by omega, hrg4, hrow4, HND2.out, HOUT2.out, hB4⟩
      · have hpf : Lib.hasPrefix k (dir.data.toList ++ [47]) = false := by simpa using hp
        rw [hpf] at hcut
        obtain ⟨S, hS⟩ : ∃ S : ByteArray, (⟨(Lib.trimPrefix k (dir.data.toList ++ [47])).toArray⟩ : ByteArray) = S := ⟨_, rfl⟩
        rw [hS] at hcut
        have HC := Lib.hid hcut
        have hout' : ∀ z, z ∈ out ↔ (f (dir.data.toList ++ [47] ++ z)).isSome = true ∧ (left (.string (dir.data.toList ++ [47] ++ z)) && !(Lit.string (dir.data.toList ++ [47] ++ z)).sameKey (.string k)) = false := by
          intro z
          rw [HOUT.out z, HLEFT.out]
          constructor
          · rintro ⟨h1, h2⟩; exact ⟨h1, .inl h2⟩
          · rintro ⟨h1, h2 | h2⟩
            · exact ⟨h1, h2⟩
            · exact absurd (prefix_iff.2 ⟨z, h2.symm⟩) hp
        have HOUT2 := Lib.hid hout'
        clear hcut hS hout' hp hpf hnd hlk hfk hxk hleft hrow hrg hkx e1 hat2 hv hg2
        go_wp2_with fail
        refine HC.out.mono ?_
        rintro e w3 ⟨rfl, rfl⟩
        go_wp2_with fail
        go_roundg (gk - 1)
        case measure => omega
        case rel => exact ⟨_, cnt2, out, _, rfl, by omega, hrg2, hrow2, HND.out, HOUT2.out, hB2⟩
end Go.Proofs.YtfpgbhimgfdddaaGreatDoor
