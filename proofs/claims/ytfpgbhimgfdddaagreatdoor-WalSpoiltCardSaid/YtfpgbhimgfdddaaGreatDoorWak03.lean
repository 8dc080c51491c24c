/- Merged (what the claim wants of): DskWalksD, DskPlain2, DskPlain3. -/
import Derived.Test.YtfpgbhimgfdddaaGreatDoorWak02
set_option linter.unusedVariables false
set_option linter.unusedSimpArgs false
/- The walks of layer 3 (disk): copies of a tree, New. -/
namespace Go.Proofs.YtfpgbhimgfdddaaGreatDoor
open Go.RowKit Go.Shelf
attribute [local go_sem ↓] Go.wp_at_zero Go.wp_at_succ
attribute [local go_sem] Later.cell Later.frozen

abbrev SM (w : World) (b : Nat) (f : Txt → Option Value) : Prop := SMap Tryz.prog 9 w b f
def CloneOut (w : World) (f : Txt → Option Value) (e : Ending) (w' : World) : Prop :=
  ∃ x, e = .returned (.map (some x)) ∧ SM w' x f ∧ w.heap.size ≤ x ∧ Below w.heap.size w w'
theorem cloneD_calls (b : Nat) (f : Txt → Option Value) (w : World) (h : SM w b f) : Calls Tryz.prog 103 #[.map (some b)] w (CloneOut w f) := by
  obtain ⟨D, h1, h2, h3⟩ := h
  have hcon := AnyW.maps_Clone_owns Tryz.cloneD 9 HR b (Maps.size D) D w h1
  change Calls Tryz.prog 103 _ _ _ at hcon
  refine hcon.mono ?_
  rintro e w' ⟨rfl, a1, _, a3⟩
  exact ⟨_, rfl, ⟨D, a1, h2, h3⟩, Nat.le_refl _, a3⟩
theorem cloneF_calls (b : Nat) (f : Txt → Option Value) (w : World) (h : SM w b f) : Calls Tryz.prog 104 #[.map (some b)] w (CloneOut w f) := by
  obtain ⟨D, h1, h2, h3⟩ := h
  have hcon := AnyW.maps_Clone_owns Tryz.cloneF 9 HR b (Maps.size D) D w h1
  change Calls Tryz.prog 104 _ _ _ at hcon
  refine hcon.mono ?_
  rintro e w' ⟨rfl, a1, _, a3⟩
  exact ⟨_, rfl, ⟨D, a1, h2, h3⟩, Nat.le_refl _, a3⟩

def TwinD (w : World) (f g : Txt → Option Value) (e : Ending) (w' : World) : Prop :=
  ∃ x y, e = .returned (.agg #[.map (some x), .map (some y)]) ∧ SM w' x f ∧ SM w' y g ∧ x ≠ y ∧ w.heap.size ≤ x ∧ w.heap.size ≤ y ∧ Below w.heap.size w w'
theorem twinS_of {md mf q : Nat} {w : World} (h : Blk w q 122 #[.map (some md), .map (some mf)]) : w.cell? ⟨q, 0, none⟩ = some (.map (some md)) ∧ w.cell? ⟨q, 1, none⟩ = some (.map (some mf)) := ⟨h.cell 0, h.cell 1⟩

set_option maxRecDepth 100000 in
set_option maxHeartbeats 2000000 in
theorem twinD_calls (md mf : Nat) (f g : Txt → Option Value) (w : World) (hd : SM w md f) (hf : SM w mf g) :
    Calls Tryz.prog 52 #[.agg #[.map (some md), .map (some mf)]] w (TwinD w f g) := by
  go_enter Tryz.func52, Tryz.ntmps52
  go_upto_region 1 with fail
  obtain ⟨w0, hw0⟩ : ∃ x, (w.alloc (.cells #[.map (some md), .map (some mf)] 122)).alloc (.cells #[.map none, .map none] 122) = x := ⟨_, rfl⟩
  have hb0 : Below w.heap.size w w0 := by rw [← hw0]; exact ((Below.refl _ _).alloc (Nat.le_refl _) _).alloc (by simp) _
  have hq : Blk w0 w.heap.size 122 #[.map (some md), .map (some mf)] := by rw [← hw0]; exact (Blk.new _ _ _).alloc _
  have hp : Blk w0 (w.heap.size + 1) 122 #[.map none, .map none] := by rw [← hw0]; exact Blk.newAt (by simp)
  have hd0 : SM w0.drew md f := hd.below hb0.drew hd.lt
  have hf0 : SM w0.drew mf g := hf.below hb0.drew hf.lt
  have hq0 : Blk w0.drew w.heap.size 122 #[.map (some md), .map (some mf)] := hq
  have hp0 : Blk w0.drew (w.heap.size + 1) 122 #[.map none, .map none] := hp
  rw [hw0]
  obtain ⟨q, hqq⟩ : ∃ a, w.heap.size = a := ⟨_, rfl⟩
  have hB0 : Below w.heap.size w w0.drew := hb0.drew
  rw [hqq] at hq0 hp0 ⊢
  clear hw0 hq hp hb0
  have hqp : q ≠ q + 1 := by omega
  go_region_held3 (fun w' => w'.cell? ⟨q, 0, none⟩ = some (.map (some md)) ∧ w'.cell? ⟨q, 1, none⟩ = some (.map (some mf)))
    (first | exact twinS_of hq0 | exact twinS_of hq2 | exact twinS_of hq1 | exact twinS_of ((hq2.far (by simp) _).far (by simp) _) | go_keep)
    (first
      | (go_at_call 103; refine (cloneD_calls md f w0.drew hd0).mono ?_; rintro e w1 ⟨x, rfl, hx, hxl, hb1⟩; have hq1 := hq0.below hb1 hq0.lt)
      | (go_at_call 104; refine (cloneF_calls mf g w1 (hf0.below hb1 hf0.lt)).mono ?_; rintro e w2 ⟨y, rfl, hy, hyl, hb2⟩; have hq2 := hq1.below hb2 hq1.lt; have hp2 := (hp0.below hb1 hp0.lt).below hb2 (hp0.below hb1 hp0.lt).lt; have k0 : _ = some (Value.map none) := hp2.cell 0; have k1 : _ = some (Value.map none) := hp2.cell 1; have g0 := hp2.frozen 0; have g1 := hp2.frozen 1)
      | (go_at_call 104; refine (cloneF_calls mf g w0.drew hf0).mono ?_; rintro e w1 ⟨y, rfl, hy, hyl, hb1⟩; have hq1 := hq0.below hb1 hq0.lt)
      | (go_at_call 103; refine (cloneD_calls md f w1 (hd0.below hb1 hd0.lt)).mono ?_; rintro e w2 ⟨x, rfl, hx, hxl, hb2⟩; have hq2 := hq1.below hb2 hq1.lt; have hp2 := (hp0.below hb1 hp0.lt).below hb2 (hp0.below hb1 hp0.lt).lt; have k0 : _ = some (Value.map none) := hp2.cell 0; have k1 : _ = some (Value.map none) := hp2.cell 1; have g0 := hp2.frozen 0; have g1 := hp2.frozen 1))
  all_goals
    have hX : SM w2 x f := by first | exact hx | exact hx.below hb2 hx.lt
    have hY : SM w2 y g := by first | exact hy | exact hy.below hb2 hy.lt
    have hl1 := hp0.lt
    have hxy : x ≠ y := by have h1 := SMap.lt hx; have h2 := SMap.lt hy; omega
    have hs1 := hb1.size
    have hx1 : w0.drew.heap.size ≤ x := by omega
    have hy1 : w0.drew.heap.size ≤ y := by omega
    have hX3 : SM ((w2.setCell ⟨q + 1, 0, none⟩ (.map (some x))).setCell ⟨q + 1, 1, none⟩ (.map (some y))) x f := hX.same ((Below.heap_setCell _ _ _ _ (by simp; omega)).trans (Below.heap_setCell _ _ _ _ (by simp; omega)))
    have hY3 : SM ((w2.setCell ⟨q + 1, 0, none⟩ (.map (some x))).setCell ⟨q + 1, 1, none⟩ (.map (some y))) y g := hY.same ((Below.heap_setCell _ _ _ _ (by simp; omega)).trans (Below.heap_setCell _ _ _ _ (by simp; omega)))
    have hp3 : Blk ((w2.setCell ⟨q + 1, 0, none⟩ (.map (some x))).setCell ⟨q + 1, 1, none⟩ (.map (some y))) (q + 1) 122 #[.map (some x), .map (some y)] := (hp2.set_ 0 _).set_ 1 _
    have hB3 : Below w.heap.size w ((w2.setCell ⟨q + 1, 0, none⟩ (.map (some x))).setCell ⟨q + 1, 1, none⟩ (.map (some y))) := ((then_ (then_ hB0 hb1) hb2).setCell (by simp; omega) _).setCell (by simp; omega) _
    have hsz := hB0.size
    obtain ⟨w3, hw3⟩ : ∃ w3, (w2.setCell ⟨q + 1, 0, none⟩ (.map (some x))).setCell ⟨q + 1, 1, none⟩ (.map (some y)) = w3 := ⟨_, rfl⟩
    rw [hw3] at hX3 hY3 hp3 hB3 ⊢
    have m0 : _ = some (Value.map (some x)) := hp3.cell 0
    have m1 : _ = some (Value.map (some y)) := hp3.cell 1
    have hO : TwinD w f g (.returned (.agg #[.map (some x), .map (some y)])) w3 := ⟨x, y, rfl, hX3, hY3, hxy, by omega, by omega, hB3⟩
    have HO := Lib.hid hO
    clear hX hY hx hy hX3 hY3 hB3 hO hb1 hb2 hq0 hp0 hp2 k0 k1 g0 g1 hd0 hf0 hw3 hB0 hq1 hq2 hxy hx1 hy1 hxl hyl hs1 hl1 hsz hqp hd hf hp3
    go_wp2_with fail
    exact bodyPost_ret (v := .agg #[.map (some x), .map (some y)]) (by simp [results, Tryz.results52, go_sem, m0, m1]) rfl HO.out

/-- A disk that is new. -/
def NewOut (B0 : Nat) (n : Int) (w : World) (e : Ending) (w' : World) : Prop :=
  ∃ R A, e = .returned (.pointer (some ⟨A.p, 0, none⟩)) ∧ CD B0 w' R A (newD n) ∧ Below w.heap.size w w' ∧ ∀ k, R k ≠ 0 → w.heap.size ≤ k
def newR (B x y k : Nat) : Nat := if k = B + 2 then 1 else if k = B then 2 else if k = B + 1 then 3 else if k = x then 4 else if k = y then 6 else 0
theorem dirF_nil : dirF [] = fun _ => none := by funext x; simp [dirF]
theorem filF_nil (φ : List Nat) : filF φ [] = fun _ => none := by funext x; simp [filF]
set_option maxRecDepth 100000 in
set_option maxHeartbeats 2000000 in
theorem new_calls (B0 : Nat) (n : Int) (w : World) (hB : B0 ≤ w.heap.size) (hn : n ≤ 9223372036854775807) (hn' : -9223372036854775808 ≤ n) :
    Calls Tryz.prog 11 #[.int .i64 n] w (NewOut B0 n w) := by
  have hmm := @run_makeMap Tryz.prog
  have key : ∀ c : Int, c = ((newD n).cap : Int) → ∀ W : World, W = ((w.alloc (.map #[] 0)).alloc (.map #[] 0)).alloc (.cells #[.map (some w.heap.size), .map (some (w.heap.size + 1)), .map none, .map none, .slice none 0 0, .int .i64 c, .bool false, .int .i64 0] 125) →
      ∀ e W', TwinD W (fun _ => none) (fun _ => none) e W' → ∃ x y, e = .returned (.agg #[.map (some x), .map (some y)]) ∧ Blk W' (w.heap.size + 2) 125 #[.map (some w.heap.size), .map (some (w.heap.size + 1)), .map none, .map none, .slice none 0 0, .int .i64 c, .bool false, .int .i64 0] ∧
        NewOut B0 n w (.returned (.pointer (some ⟨w.heap.size + 2, 0, none⟩))) ((W'.setCell ⟨w.heap.size + 2, 2, none⟩ (.map (some x))).setCell ⟨w.heap.size + 2, 3, none⟩ (.map (some y))) := by
    rintro c hc W rfl e W' ⟨x, y, rfl, hx, hy, hxy, hxl, hyl, hb⟩
    have m1 : SM (w.alloc (.map #[] 0)) w.heap.size fun _ => none := SMap.made w
    have m2 : SM ((w.alloc (.map #[] 0)).alloc (.map #[] 0)) (w.heap.size + 1) fun _ => none := by
      have := SMap.made (P := Tryz.prog) (K := 9) (w.alloc (.map #[] 0))
      simpa using this
    have m1' := m1.grown (World.grownBy_alloc _ (.map #[] 0) none) (by simp)
    have hblk : Blk (((w.alloc (.map #[] 0)).alloc (.map #[] 0)).alloc (.cells #[.map (some w.heap.size), .map (some (w.heap.size + 1)), .map none, .map none, .slice none 0 0, .int .i64 c, .bool false, .int .i64 0] 125)) (w.heap.size + 2) 125 #[.map (some w.heap.size), .map (some (w.heap.size + 1)), .map none, .map none, .slice none 0 0, .int .i64 c, .bool false, .int .i64 0] := Blk.newAt (by simp)
    have m1'' := m1'.grown (World.grownBy_alloc _ (.cells #[.map (some w.heap.size), .map (some (w.heap.size + 1)), .map none, .map none, .slice none 0 0, .int .i64 c, .bool false, .int .i64 0] 125) none) (by simp)
    have m2'' := m2.grown (World.grownBy_alloc _ (.cells #[.map (some w.heap.size), .map (some (w.heap.size + 1)), .map none, .map none, .slice none 0 0, .int .i64 c, .bool false, .int .i64 0] 125) none) (by simp)
    have hsz : (((w.alloc (.map #[] 0)).alloc (.map #[] 0)).alloc (.cells #[.map (some w.heap.size), .map (some (w.heap.size + 1)), .map none, .map none, .slice none 0 0, .int .i64 c, .bool false, .int .i64 0] 125)).heap.size = w.heap.size + 3 := by simp
    have hB1 : Below w.heap.size w (((w.alloc (.map #[] 0)).alloc (.map #[] 0)).alloc (.cells #[.map (some w.heap.size), .map (some (w.heap.size + 1)), .map none, .map none, .slice none 0 0, .int .i64 c, .bool false, .int .i64 0] 125)) := (((Below.refl _ _).alloc (Nat.le_refl _) _).alloc (by simp) _).alloc (by simp; omega) _
    obtain ⟨W, hW⟩ : ∃ W, ((w.alloc (.map #[] 0)).alloc (.map #[] 0)).alloc (.cells #[.map (some w.heap.size), .map (some (w.heap.size + 1)), .map none, .map none, .slice none 0 0, .int .i64 c, .bool false, .int .i64 0] 125) = W := ⟨_, rfl⟩
    rw [hW] at hblk m1'' m2'' hsz hB1 hb hxl hyl
    have hblk' := hblk.below hb hblk.lt
    have n1 := m1''.below hb m1''.lt
    have n2 := m2''.below hb m2''.lt
    rw [hsz] at hxl hyl
    refine ⟨x, y, rfl, hblk', ?_⟩
    obtain ⟨B, hBw⟩ : ∃ B, w.heap.size = B := ⟨_, rfl⟩
    have hx1 := SMap.lt hx
    have hy1 := SMap.lt hy
    have hBW : Below w.heap.size w W' := hB1.trans (hb.mono (by omega))
    rw [hBw] at hblk' n1 n2 hxl hyl hB ⊢
    have hset : ∀ k, k ≠ B + 2 → ((W'.setCell ⟨B + 2, 2, none⟩ (.map (some x))).setCell ⟨B + 2, 3, none⟩ (.map (some y))).heap[k]? = W'.heap[k]? := fun k hk => (Below.heap_setCell _ _ _ _ hk).trans (Below.heap_setCell _ _ _ _ hk)
    have hsizes : ((W'.setCell ⟨B + 2, 2, none⟩ (.map (some x))).setCell ⟨B + 2, 3, none⟩ (.map (some y))).heap.size = W'.heap.size := by simp [World.setCell]
    have hb3 := hblk'.lt
    refine ⟨newR B x y, ⟨B + 2, B, B + 1, x, y, .slice none 0 0, []⟩, rfl, ?_, ?_, ?_⟩
    · exact {
        blk := by
          have h3 := (hblk'.set_ 2 (.map (some x))).set_ 3 (.map (some y))
          rw [hc] at h3
          exact h3
        rp := by simp [newR]
        dirs := ⟨by rw [show (newD n).things = [] from rfl, dirF_nil]; exact n1.same (hset B (by omega)), by simp [newR]⟩
        files := ⟨by rw [show (newD n).things = [] from rfl, filF_nil]; exact n2.same (hset _ (by omega)), by simp [newR]⟩
        sdirs := ⟨by rw [show (newD n).safe = [] from rfl, dirF_nil]; exact hx.same (hset _ (by omega)), by show newR B x y x = 4; unfold newR; (repeat' split) <;> omega⟩
        sfiles := ⟨by rw [show (newD n).safe = [] from rfl, filF_nil]; exact hy.same (hset _ (by omega)), by show newR B x y y = 6; unfold newR; (repeat' split) <;> omega⟩
        steps := ⟨[], RowIs.nil, rfl, fun i s f hs => by simp [newD] at hs⟩
        bytes := ⟨rfl, fun i b f hb => by simp at hb⟩
        inw := fun k hk => by
          rw [hsizes]
          unfold newR at hk
          repeat' split at hk
          all_goals omega
        low := fun k hk => by
          unfold newR
          repeat' split
          all_goals omega }
    · exact (hBW.setCell (by simp; omega) _).setCell (by simp; omega) _
    · intro k hk
      unfold newR at hk
      repeat' split at hk
      all_goals omega
  have hcap : ((newD n).cap : Int) = max 0 (min n 67108864) := by simp only [newD]; omega
  have KEY := Lib.hid key
  have HCAP := Lib.hid hcap
  clear key hcap
  have htw := fun W => twinD_calls w.heap.size (w.heap.size + 1) (fun _ => none) (fun _ => none) W
  have HTW := Lib.hid htw
  clear htw
  have hmade : ∀ c : Value, SM (((w.alloc (.map #[] 0)).alloc (.map #[] 0)).alloc (.cells #[.map (some w.heap.size), .map (some (w.heap.size + 1)), .map none, .map none, .slice none 0 0, c, .bool false, .int .i64 0] 125)) w.heap.size (fun _ => none) ∧ SM (((w.alloc (.map #[] 0)).alloc (.map #[] 0)).alloc (.cells #[.map (some w.heap.size), .map (some (w.heap.size + 1)), .map none, .map none, .slice none 0 0, c, .bool false, .int .i64 0] 125)) (w.heap.size + 1) (fun _ => none) := by
    intro c
    have m1 : SM (w.alloc (.map #[] 0)) w.heap.size fun _ => none := SMap.made w
    have m2 : SM ((w.alloc (.map #[] 0)).alloc (.map #[] 0)) (w.heap.size + 1) fun _ => none := by
      have := SMap.made (P := Tryz.prog) (K := 9) (w.alloc (.map #[] 0))
      simpa using this
    exact ⟨(m1.grown (World.grownBy_alloc _ (.map #[] 0) none) (by simp)).grown (World.grownBy_alloc _ _ none) (by simp), m2.grown (World.grownBy_alloc _ _ none) (by simp)⟩
  have HM := Lib.hid hmade
  clear hmade
  by_cases h0 : n < 0
  · have e1 : min n 67108864 = n := by omega
    have e2 : max 0 n = 0 := by omega
    have d1 : decide (n < 67108864) = true := by simp; omega
    have d2 : decide (67108864 < n) = false := by simp; omega
    have d3 : decide (n < 0) = true := by simp; omega
    have d4 : decide (0 < n) = false := by simp; omega
    have HC := Lib.hid (show (0 : Int) = ((newD n).cap : Int) by rw [HCAP.out]; omega)
    go_enter Tryz.func11, Tryz.ntmps11
    go_wp2_with fail
    refine (HTW.out _ (HM.out _).1 (HM.out _).2).mono ?_
    rintro e W' hO
    obtain ⟨x, y, rfl, hblk, hN⟩ := KEY.out 0 HC.out _ rfl e W' hO
    have k2 : _ = some (Value.map none) := hblk.cell 2
    have k3 : _ = some (Value.map none) := hblk.cell 3
    have g2 := hblk.frozen 2
    have g3 := hblk.frozen 3
    have HN := Lib.hid hN
    clear hN hO hblk
    go_wp2_with fail
    go_ret
    exact HN.out
  · by_cases h1 : n < 67108864
    · have e1 : min n 67108864 = n := by omega
      have e2 : max 0 n = n := by omega
      have d1 : decide (n < 67108864) = true := by simp; omega
      have d2 : decide (67108864 < n) = false := by simp; omega
      have d3 : decide (n < 0) = false := by simp; omega
      have HC := Lib.hid (show n = ((newD n).cap : Int) by rw [HCAP.out]; omega)
      go_enter Tryz.func11, Tryz.ntmps11
      go_wp2_with fail
      refine (HTW.out _ (HM.out _).1 (HM.out _).2).mono ?_
      rintro e W' hO
      obtain ⟨x, y, rfl, hblk, hN⟩ := KEY.out n HC.out _ rfl e W' hO
      have k2 : _ = some (Value.map none) := hblk.cell 2
      have k3 : _ = some (Value.map none) := hblk.cell 3
      have g2 := hblk.frozen 2
      have g3 := hblk.frozen 3
      have HN := Lib.hid hN
      clear hN hO hblk
      go_wp2_with fail
      go_ret
      exact HN.out
    · have e1 : min n 67108864 = 67108864 := by omega
      have d1 : decide (n < 67108864) = false := by simp; omega
      have d5 : decide (67108864 ≤ n) = true := by simp; omega
      have HC := Lib.hid (show (67108864 : Int) = ((newD n).cap : Int) by rw [HCAP.out]; omega)
      go_enter Tryz.func11, Tryz.ntmps11
      go_wp2_with fail
      refine (HTW.out _ (HM.out _).1 (HM.out _).2).mono ?_
      rintro e W' hO
      obtain ⟨x, y, rfl, hblk, hN⟩ := KEY.out 67108864 HC.out _ rfl e W' hO
      have k2 : _ = some (Value.map none) := hblk.cell 2
      have k3 : _ = some (Value.map none) := hblk.cell 3
      have g2 := hblk.frozen 2
      have g3 := hblk.frozen 3
      have HN := Lib.hid hN
      clear hN hO hblk
      go_wp2_with fail
      go_ret
      exact HN.out
end Go.Proofs.YtfpgbhimgfdddaaGreatDoor

/- The plain law of layer 3 (disk): what a names step does to what there is, key by key. No program in sight. -/
namespace Go.Proofs.YtfpgbhimgfdddaaGreatDoor

/-- What there is, is as it should be; there are n files. -/
structure TW (n : Nat) (l : List Th) : Prop where
  nodup : (l.map Th.path).Nodup
  dirs : ∀ x ∈ l, x.dir = true → nameB x.path = true
  paths : ∀ x ∈ l, pathB x.path = true
  par : ∀ x ∈ l, ∀ k, slashAt x.path = some k → ∃ y ∈ l, y.dir = true ∧ y.path = x.path.take k
  ats : ∀ x ∈ l, x.dir = false → x.at_ < n
  inj : ∀ x ∈ l, ∀ y ∈ l, x.dir = false → y.dir = false → x.at_ = y.at_ → x = y
def StOk (n : Nat) (l : List Th) : St → Prop
  | .mkdir a => nameB a = true ∧ isT l a = 0
  | .create a i => pathB a = true ∧ parentB l a = true ∧ isT l a = 0 ∧ i < n ∧ ∀ x ∈ l, x.dir = false → x.at_ ≠ i
  | .remove a => pathB a = true ∧ isT l a ≠ 0
  | .rename a b => pathB a = true ∧ pathB b = true ∧ isT l a ≠ 0 ∧ parentB l b = true ∧ isT l b ≠ 2 ∧ (isT l a = 2 → nameB b = true ∧ isT l b = 0) ∧ a ≠ b

/-! ### names -/
theorem nameB_slash {s : Txt} (h : nameB s = true) : slashAt s = none := by
  simp only [nameB, Bool.and_eq_true] at h
  have h1 := h.1.1
  clear h
  induction s with
  | nil => rfl
  | cons b l ih =>
    simp only [List.all_cons, Bool.and_eq_true] at h1
    rw [slashAt, if_neg, ih h1.2]
    · rfl
    · rintro rfl
      have := h1.1
      simp [nameC] at this
theorem slash_none {s : Txt} (h : slashAt s = none) : (47 : UInt8) ∉ s := by
  induction s with
  | nil => simp
  | cons b l ih =>
    rw [slashAt] at h
    split at h
    · cases h
    · rename_i hb
      have : slashAt l = none := by cases hl : slashAt l <;> simp_all
      simp only [List.mem_cons, not_or]
      exact ⟨fun e => hb e.symm, ih this⟩
theorem inside_iff {p d : Txt} : insideB p d = true ↔ ∃ x, p = d ++ [47] ++ x := by
  unfold insideB
  rw [List.isPrefixOf_iff_prefix]
  constructor
  · rintro ⟨x, h⟩; exact ⟨x, h.symm⟩
  · rintro ⟨x, h⟩; exact ⟨x, h.symm⟩
theorem name_not_inside {p d : Txt} (h : nameB p = true) : insideB p d = false := by
  cases hi : insideB p d with
  | false => rfl
  | true =>
    obtain ⟨x, rfl⟩ := inside_iff.1 hi
    exact absurd (slash_none (nameB_slash h)) (by simp)
theorem slashAt_app : ∀ {d : Txt} (x : Txt), slashAt d = none → slashAt (d ++ [47] ++ x) = some d.length
  | [], x, _ => by simp [slashAt]
  | b :: d, x, h => by
    rw [slashAt] at h
    split at h
    · cases h
    · rename_i hb
      have hd : slashAt d = none := by cases hl : slashAt d <;> simp_all
      have := slashAt_app x hd
      simp only [List.cons_append] at this ⊢
      rw [slashAt, if_neg hb, this]
      simp

theorem slashAt_lt2 : ∀ {l : Txt} {k : Nat}, slashAt l = some k → k < l.length
  | b :: l, k, h => by
    rw [slashAt] at h
    split at h
    · injection h with h; subst h; simp
    · cases hs : slashAt l with
      | none => rw [hs] at h; cases h
      | some j =>
        rw [hs] at h
        injection h with h
        have := slashAt_lt2 hs
        simp at h ⊢
        omega

/-! ### keys -/
theorem isT_zero {l : List Th} {a : Txt} : isT l a = 0 ↔ ∀ x ∈ l, x.path ≠ a := by
  unfold isT findT
  cases h : l.find? fun x => x.path == a with
  | none =>
    simp only [List.find?_eq_none] at h
    simp only [true_iff]
    intro x hx e
    exact h x hx (by simpa using e)
  | some y =>
    have h1 := List.find?_some h
    have h2 := List.mem_of_find?_eq_some h
    simp only
    constructor
    · intro e
      split at e <;> omega
    · intro e
      exact absurd (by simpa using h1) (e y h2)
theorem path_one {l : List Th} (h : (l.map Th.path).Nodup) {x y : Th} (hx : x ∈ l) (hy : y ∈ l) (e : x.path = y.path) : x = y := by
  induction l with
  | nil => cases hx
  | cons z l ih =>
    simp only [List.map_cons, List.nodup_cons] at h
    rcases List.mem_cons.1 hx with rfl | hx' <;> rcases List.mem_cons.1 hy with rfl | hy'
    · rfl
    · exact absurd (List.mem_map_of_mem (f := Th.path) hy') (by rw [← e]; exact h.1)
    · exact absurd (List.mem_map_of_mem (f := Th.path) hx') (by rw [e]; exact h.1)
    · exact ih h.2 hx' hy'
theorem isT_of {l : List Th} (h : (l.map Th.path).Nodup) {x : Th} (hx : x ∈ l) : isT l x.path = if x.dir then 2 else 1 := by
  unfold isT findT
  cases hf : l.find? fun y => y.path == x.path with
  | none =>
    simp only [List.find?_eq_none] at hf
    exact absurd (by simp) (hf x hx)
  | some y =>
    have h1 := List.find?_some hf
    have h2 := List.mem_of_find?_eq_some hf
    obtain rfl := path_one h h2 hx (by simpa using h1)
    rfl
theorem isT_cases {l : List Th} {a : Txt} (h : isT l a ≠ 0) : ∃ x ∈ l, x.path = a ∧ isT l a = if x.dir then 2 else 1 := by
  unfold isT findT at h ⊢
  cases hf : l.find? fun y => y.path == a with
  | none => rw [hf] at h; exact absurd rfl h
  | some y =>
    have h1 := List.find?_some hf
    exact ⟨y, List.mem_of_find?_eq_some hf, by simpa using h1, rfl⟩
theorem dirF_some {l : List Th} {x : Txt} : (dirF l x).isSome = true ↔ ∃ y ∈ l, y.dir = true ∧ y.path = x := by
  unfold dirF
  split
  · rename_i h
    rw [List.any_eq_true] at h
    obtain ⟨y, hy, h⟩ := h
    simp only [Bool.and_eq_true, beq_iff_eq] at h
    simp only [Option.isSome_some, true_iff]
    exact ⟨y, hy, h.1, h.2⟩
  · rename_i h
    simp only [Option.isSome_none, Bool.false_eq_true, false_iff]
    rintro ⟨y, hy, h1, h2⟩
    apply h
    rw [List.any_eq_true]
    exact ⟨y, hy, by simp [h1, h2]⟩
theorem dirF_val {l : List Th} {x : Txt} {v : Value} (h : dirF l x = some v) : v = .int .i64 1 := by
  unfold dirF at h
  split at h
  · injection h with h; exact h.symm
  · cases h
theorem dirF_eq {l l' : List Th} {x x' : Txt} (h : (∃ y ∈ l, y.dir = true ∧ y.path = x) ↔ ∃ y ∈ l', y.dir = true ∧ y.path = x') : dirF l x = dirF l' x' := by
  cases h1 : dirF l x with
  | none =>
    cases h2 : dirF l' x' with
    | none => rfl
    | some v =>
      have := h.2 (dirF_some.1 (by rw [h2]; rfl))
      have := dirF_some.2 this
      rw [h1] at this
      cases this
  | some v =>
    have := dirF_some.2 (h.1 (dirF_some.1 (by rw [h1]; rfl)))
    cases h2 : dirF l' x' with
    | none => rw [h2] at this; cases this
    | some v' => rw [dirF_val h1, dirF_val h2]
theorem filF_iff {φ : List Nat} {l : List Th} (h : (l.map Th.path).Nodup) {x : Txt} {v : Value} : filF φ l x = some v ↔ ∃ y ∈ l, y.dir = false ∧ y.path = x ∧ v = fptr φ y.at_ := by
  unfold filF
  constructor
  · intro e
    cases hf : l.find? fun y => !y.dir && y.path == x with
    | none => rw [hf] at e; cases e
    | some y =>
      rw [hf] at e
      have h1 := List.find?_some hf
      simp only [Bool.and_eq_true, Bool.not_eq_true', beq_iff_eq] at h1
      injection e with e
      exact ⟨y, List.mem_of_find?_eq_some hf, h1.1, h1.2, e.symm⟩
  · rintro ⟨y, hy, h1, h2, rfl⟩
    cases hf : l.find? fun y => !y.dir && y.path == x with
    | none =>
      simp only [List.find?_eq_none] at hf
      exact absurd (by simp [h1, h2]) (hf y hy)
    | some z =>
      have h3 := List.find?_some hf
      simp only [Bool.and_eq_true, Bool.not_eq_true', beq_iff_eq] at h3
      obtain rfl := path_one h (List.mem_of_find?_eq_some hf) hy (h3.2.trans h2.symm)
      rfl
theorem opt_ext {α : Type} {a b : Option α} (h : ∀ v, a = some v ↔ b = some v) : a = b := by
  cases a with
  | none =>
    cases b with
    | none => rfl
    | some v => have := (h v).2 rfl; cases this
  | some v => exact ((h v).1 rfl).symm

/-! ### the steps, key by key -/
variable {n : Nat} {l : List Th} {φ : List Nat} {a b : Txt} {i : Nat}
theorem dirF_mkdir : dirF (applyS l (.mkdir a)) = upd (dirF l) a (some (.int .i64 1)) := by
  funext x
  unfold upd
  split
  · rename_i e
    subst e
    simp [dirF, applyS]
  · rename_i e
    refine dirF_eq ?_
    simp only [applyS, List.mem_append, List.mem_singleton]
    constructor
    · rintro ⟨y, hy | rfl, h1, h2⟩
      · exact ⟨y, hy, h1, h2⟩
      · exact absurd h2.symm e
    · rintro ⟨y, hy, h⟩; exact ⟨y, .inl hy, h⟩
theorem filF_mkdir : filF φ (applyS l (.mkdir a)) = filF φ l := by
  funext x
  simp [filF, applyS]
theorem dirF_create : dirF (applyS l (.create a i)) = dirF l := by
  funext x
  simp [dirF, applyS]
theorem filF_create (h : isT l a = 0) : filF φ (applyS l (.create a i)) = upd (filF φ l) a (some (fptr φ i)) := by
  funext x
  have h0 := isT_zero.1 h
  unfold upd filF
  simp only [applyS, List.find?_append]
  split
  · rename_i e
    subst e
    have : (l.find? fun y => !y.dir && y.path == x) = none := by
      rw [List.find?_eq_none]
      intro y hy
      have := h0 y hy
      simp [this]
    rw [this]
    simp
  · rename_i e
    cases l.find? fun y => !y.dir && y.path == x with
    | some y => rfl
    | none =>
      have : a ≠ x := fun h => e h.symm
      simp [this]
theorem nodup_filter {p : Th → Bool} (h : (l.map Th.path).Nodup) : ((l.filter p).map Th.path).Nodup := (List.Sublist.map _ List.filter_sublist).nodup h
theorem dirF_remove (hw : TW n l) : dirF (applyS l (.remove a)) = upd (dirF l) a none := by
  funext x
  unfold upd
  split
  · rename_i e
    subst e
    cases h : dirF (applyS l (.remove x)) x with
    | none => rfl
    | some v =>
      obtain ⟨y, hy, _, h2⟩ := dirF_some.1 (show (dirF (applyS l (.remove x)) x).isSome = true by rw [h]; rfl)
      simp only [applyS, List.mem_filter] at hy
      simp [h2] at hy
  · rename_i e
    refine dirF_eq ?_
    simp only [applyS, List.mem_filter]
    constructor
    · rintro ⟨y, ⟨hy, _⟩, h⟩; exact ⟨y, hy, h⟩
    · rintro ⟨y, hy, h1, h2⟩
      refine ⟨y, ⟨hy, ?_⟩, h1, h2⟩
      rw [name_not_inside (hw.dirs y hy h1)]
      simp [h2, e]
theorem filF_remove (hw : TW n l) (x : Txt) : filF φ (applyS l (.remove a)) x = if x = a ∨ insideB x a = true then none else filF φ l x := by
  apply opt_ext
  intro v
  have hnd : ((applyS l (.remove a)).map Th.path).Nodup := nodup_filter hw.nodup
  rw [filF_iff hnd]
  simp only [applyS, List.mem_filter]
  split
  · rename_i hx
    simp only [reduceCtorEq, iff_false]
    rintro ⟨y, ⟨_, hp⟩, _, rfl, _⟩
    rcases hx with hx | hx <;> simp [hx] at hp
  · rename_i hx
    rw [filF_iff hw.nodup]
    constructor
    · rintro ⟨y, ⟨hy, _⟩, h⟩; exact ⟨y, hy, h⟩
    · rintro ⟨y, hy, h1, rfl, h3⟩
      refine ⟨y, ⟨hy, ?_⟩, h1, rfl, h3⟩
      simp only [not_or, Bool.not_eq_true] at hx
      simp [hx.1, hx.2]

/-- A thing behind a rename. -/
def mv (a b : Txt) (x : Th) : Th := if x.path == a then { x with path := b } else if insideB x.path a then { x with path := b ++ x.path.drop a.length } else x
theorem applyS_rename : applyS l (.rename a b) = (l.filter fun x => !(x.path == b)).map (mv a b) := rfl
theorem mv_dir (x : Th) : (mv a b x).dir = x.dir ∧ (mv a b x).at_ = x.at_ := by unfold mv; split; exact ⟨rfl, rfl⟩; split <;> exact ⟨rfl, rfl⟩
theorem slashAt_more : ∀ {s : Txt} {k : Nat} (r : Txt), slashAt s = some k → slashAt (s ++ r) = some k
  | b :: s, k, r, h => by
    rw [slashAt] at h
    rw [List.cons_append, slashAt]
    split
    · rename_i hb; rw [if_pos hb] at h; exact h
    · rename_i hb
      rw [if_neg hb] at h
      cases hs : slashAt s with
      | none => rw [hs] at h; cases h
      | some j => rw [hs] at h; rw [slashAt_more r hs]; exact h
/-- Nothing is in a thing that is no directory. -/
theorem none_in (hw : TW n l) (ha : isT l a ≠ 2) (hp : pathB a = true) {x : Th} (hx : x ∈ l) : insideB x.path a = false := by
  cases hi : insideB x.path a with
  | false => rfl
  | true =>
    obtain ⟨r, hr⟩ := inside_iff.1 hi
    cases hsl : slashAt a with
    | none =>
      have hs := slashAt_app r hsl
      rw [← hr] at hs
      obtain ⟨y, hy, h1, h2⟩ := hw.par x hx _ hs
      rw [hr] at h2
      have e : y.path = a := by rw [h2]; simp
      have := isT_of hw.nodup hy
      rw [e, h1] at this
      exact absurd this ha
    | some k =>
      have hs := slashAt_more ([47] ++ r) hsl
      rw [← List.append_assoc, ← hr] at hs
      have h1 := hw.paths x hx
      unfold pathB at h1
      rw [hs] at h1
      simp only [Bool.and_eq_true] at h1
      have h2 := slash_none (nameB_slash h1.2)
      have hk := slashAt_lt2 hsl
      exfalso
      apply h2
      rw [hr, List.append_assoc, List.drop_append_of_le_length (by omega)]
      simp
theorem slashAt_take : ∀ {s : Txt} {k : Nat}, slashAt s = some k → slashAt (s.take k) = none ∧ s = s.take k ++ [47] ++ s.drop (k + 1)
  | b :: s, k, h => by
    rw [slashAt] at h
    split at h
    · rename_i hb
      injection h with h
      subst h
      subst hb
      simp [slashAt]
    · rename_i hb
      cases hs : slashAt s with
      | none => rw [hs] at h; cases h
      | some j =>
        rw [hs] at h
        injection h with h
        have h' : j + 1 = k := h
        subst h'
        obtain ⟨h1, h2⟩ := slashAt_take hs
        constructor
        · rw [List.take_succ_cons, slashAt, if_neg hb, h1]; rfl
        · rw [List.take_succ_cons, List.drop_succ_cons]
          conv => lhs; rw [h2]
          simp
theorem mv_other {x : Th} (h1 : x.path ≠ a) (h2 : insideB x.path a = false) : mv a b x = x := by simp [mv, h1, h2]
theorem mv_self {x : Th} (h1 : x.path = a) : (mv a b x).path = b := by simp [mv, h1]
theorem mv_in {x : Th} {r : Txt} (h : x.path = a ++ [47] ++ r) : (mv a b x).path = b ++ [47] ++ r := by
  have h1 : x.path ≠ a := by
    rw [h]; intro e
    have := congrArg List.length e
    simp at this
  have h2 : insideB x.path a = true := inside_iff.2 ⟨r, h⟩
  unfold mv
  rw [if_neg (by simpa using h1), if_pos h2]
  simp [h]
/-- Where a rename takes a path. -/
theorem mv_path (x : Th) : (x.path = a ∧ (mv a b x).path = b) ∨ (∃ r, x.path = a ++ [47] ++ r ∧ (mv a b x).path = b ++ [47] ++ r) ∨ (x.path ≠ a ∧ insideB x.path a = false ∧ mv a b x = x) := by
  by_cases h1 : x.path = a
  · exact .inl ⟨h1, mv_self h1⟩
  · cases h2 : insideB x.path a with
    | false => exact .inr (.inr ⟨h1, rfl, mv_other h1 h2⟩)
    | true =>
      obtain ⟨r, hr⟩ := inside_iff.1 h2
      exact .inr (.inl ⟨r, hr, mv_in hr⟩)
end Go.Proofs.YtfpgbhimgfdddaaGreatDoor

/- The plain law of layer 3 (disk): a names step leaves what there is as it should be; a rename, key by key. No program in sight. -/
namespace Go.Proofs.YtfpgbhimgfdddaaGreatDoor
variable {n : Nat} {l : List Th} {φ : List Nat} {a b : Txt} {i : Nat}

theorem nodup_app {l : List Th} {x : Th} (h : (l.map Th.path).Nodup) (hx : isT l x.path = 0) : ((l ++ [x]).map Th.path).Nodup := by
  rw [List.map_append, List.nodup_append]
  refine ⟨h, by simp, ?_⟩
  intro p hp q hq
  simp at hq
  subst hq
  obtain ⟨y, hy, rfl⟩ := List.mem_map.1 hp
  exact isT_zero.1 hx y hy
theorem name_path {a : Txt} (h : nameB a = true) : pathB a = true := by
  unfold pathB
  rw [nameB_slash h]
  exact h
theorem TW.mkdir (hw : TW n l) (h : StOk n l (.mkdir a)) : TW n (applyS l (.mkdir a)) := by
  obtain ⟨h1, h2⟩ := h
  refine ⟨nodup_app hw.nodup h2, ?_, ?_, ?_, ?_, ?_⟩
  · intro x hx hd
    rcases List.mem_append.1 hx with hx | hx
    · exact hw.dirs x hx hd
    · rw [List.mem_singleton.1 hx]; exact h1
  · intro x hx
    rcases List.mem_append.1 hx with hx | hx
    · exact hw.paths x hx
    · rw [List.mem_singleton.1 hx]; exact name_path h1
  · intro x hx k hk
    rcases List.mem_append.1 hx with hx | hx
    · obtain ⟨y, hy, e⟩ := hw.par x hx k hk
      exact ⟨y, List.mem_append.2 (.inl hy), e⟩
    · rw [List.mem_singleton.1 hx] at hk
      have := nameB_slash h1
      rw [this] at hk
      cases hk
  · intro x hx hd
    rcases List.mem_append.1 hx with hx | hx
    · exact hw.ats x hx hd
    · rw [List.mem_singleton.1 hx] at hd; cases hd
  · intro x hx y hy hdx hdy e
    rcases List.mem_append.1 hx with hx | hx
    · rcases List.mem_append.1 hy with hy | hy
      · exact hw.inj x hx y hy hdx hdy e
      · rw [List.mem_singleton.1 hy] at hdy; cases hdy
    · rw [List.mem_singleton.1 hx] at hdx; cases hdx
theorem parent_some (h : parentB l a = true) {k : Nat} (hk : slashAt a = some k) : ∃ y ∈ l, y.dir = true ∧ y.path = a.take k := by
  unfold parentB at h
  rw [hk] at h
  have h2 : isT l (a.take k) = 2 := by simpa using h
  obtain ⟨y, hy, e, h3⟩ := isT_cases (by rw [h2]; omega)
  refine ⟨y, hy, ?_, e⟩
  rw [h2] at h3
  split at h3
  · assumption
  · omega
theorem TW.create (hw : TW n l) (h : StOk n l (.create a i)) : TW n (applyS l (.create a i)) := by
  obtain ⟨h1, h2, h3, h4, h5⟩ := h
  refine ⟨nodup_app hw.nodup h3, ?_, ?_, ?_, ?_, ?_⟩
  · intro x hx hd
    rcases List.mem_append.1 hx with hx | hx
    · exact hw.dirs x hx hd
    · rw [List.mem_singleton.1 hx] at hd; cases hd
  · intro x hx
    rcases List.mem_append.1 hx with hx | hx
    · exact hw.paths x hx
    · rw [List.mem_singleton.1 hx]; exact h1
  · intro x hx k hk
    rcases List.mem_append.1 hx with hx | hx
    · obtain ⟨y, hy, e⟩ := hw.par x hx k hk
      exact ⟨y, List.mem_append.2 (.inl hy), e⟩
    · rw [List.mem_singleton.1 hx] at hk ⊢
      obtain ⟨y, hy, e⟩ := parent_some h2 hk
      exact ⟨y, List.mem_append.2 (.inl hy), e⟩
  · intro x hx hd
    rcases List.mem_append.1 hx with hx | hx
    · exact hw.ats x hx hd
    · rw [List.mem_singleton.1 hx]; exact h4
  · intro x hx y hy hdx hdy e
    rcases List.mem_append.1 hx with hx | hx
    · rcases List.mem_append.1 hy with hy | hy
      · exact hw.inj x hx y hy hdx hdy e
      · rw [List.mem_singleton.1 hy] at e
        exact absurd e (h5 x hx hdx)
    · rcases List.mem_append.1 hy with hy | hy
      · rw [List.mem_singleton.1 hx] at e
        exact absurd e.symm (h5 y hy hdy)
      · rw [List.mem_singleton.1 hx, List.mem_singleton.1 hy]
theorem TW.remove (hw : TW n l) : TW n (applyS l (.remove a)) := by
  have hsub : ∀ x ∈ applyS l (.remove a), x ∈ l := fun x hx => (List.mem_filter.1 hx).1
  refine ⟨nodup_filter hw.nodup, fun x hx => hw.dirs x (hsub x hx), fun x hx => hw.paths x (hsub x hx), ?_, fun x hx => hw.ats x (hsub x hx), fun x hx y hy => hw.inj x (hsub x hx) y (hsub y hy)⟩
  intro x hx k hk
  obtain ⟨y, hy, h1, h2⟩ := hw.par x (hsub x hx) k hk
  refine ⟨y, List.mem_filter.2 ⟨hy, ?_⟩, h1, h2⟩
  rw [name_not_inside (hw.dirs y hy h1)]
  have hx2 := (List.mem_filter.1 hx).2
  have hne : y.path ≠ a := by
    intro e
    obtain ⟨_, hsp⟩ := slashAt_take hk
    rw [← h2, e] at hsp
    have : insideB x.path a = true := inside_iff.2 ⟨_, hsp⟩
    simp [this] at hx2
  simp [hne]

/-! ### rename -/
/-- What is behind a rename, path by path. -/
theorem ren_mem {x : Th} : x ∈ applyS l (.rename a b) ↔ ∃ y ∈ l, y.path ≠ b ∧ mv a b y = x := by
  rw [applyS_rename, List.mem_map]
  constructor
  · rintro ⟨y, hy, e⟩
    obtain ⟨h1, h2⟩ := List.mem_filter.1 hy
    exact ⟨y, h1, by simpa using h2, e⟩
  · rintro ⟨y, h1, h2, e⟩
    exact ⟨y, List.mem_filter.2 ⟨h1, by simpa using h2⟩, e⟩
/-- Nothing is at, or in, the place that a rename takes. -/
theorem ren_free (hw : TW n l) (h : StOk n l (.rename a b)) {y : Th} (hy : y ∈ l) : insideB y.path b = false := none_in hw h.2.2.2.2.1 h.2.1 hy
theorem app_cancel {d x y : Txt} (h : d ++ [47] ++ x = d ++ [47] ++ y) : x = y := List.append_cancel_left h
theorem ren_inj (hw : TW n l) (h : StOk n l (.rename a b)) {x y : Th} (hx : x ∈ l) (hy : y ∈ l) (hxb : x.path ≠ b) (hyb : y.path ≠ b) (e : (mv a b x).path = (mv a b y).path) : x = y := by
  have hne : ∀ r : Txt, b ≠ b ++ [47] ++ r := fun r e => by have := congrArg List.length e; simp at this
  rcases mv_path (a := a) (b := b) x with ⟨h1, h2⟩ | ⟨r, h1, h2⟩ | ⟨h1, h2, h3⟩
  · rcases mv_path (a := a) (b := b) y with ⟨k1, k2⟩ | ⟨s, k1, k2⟩ | ⟨k1, k2, k3⟩
    · exact path_one hw.nodup hx hy (h1.trans k1.symm)
    · rw [h2, k2] at e; exact absurd e (hne s)
    · rw [h2, k3] at e; exact absurd e.symm hyb
  · rcases mv_path (a := a) (b := b) y with ⟨k1, k2⟩ | ⟨s, k1, k2⟩ | ⟨k1, k2, k3⟩
    · rw [h2, k2] at e; exact absurd e.symm (hne r)
    · rw [h2, k2] at e
      have := app_cancel e
      subst this
      exact path_one hw.nodup hx hy (h1.trans k1.symm)
    · rw [h2, k3] at e
      have := ren_free hw h hy
      rw [inside_iff.2 ⟨r, e.symm⟩] at this
      cases this
  · rcases mv_path (a := a) (b := b) y with ⟨k1, k2⟩ | ⟨s, k1, k2⟩ | ⟨k1, k2, k3⟩
    · rw [h3, k2] at e; exact absurd e hxb
    · rw [h3, k2] at e
      have := ren_free hw h hx
      rw [inside_iff.2 ⟨s, e⟩] at this
      cases this
    · rw [h3, k3] at e
      exact path_one hw.nodup hx hy e
theorem nodup_map_inj {α β : Type} {f : α → β} : ∀ {l : List α}, l.Nodup → (∀ x ∈ l, ∀ y ∈ l, f x = f y → x = y) → (l.map f).Nodup
  | [], _, _ => by simp
  | a :: l, h, hi => by
    rw [List.nodup_cons] at h
    rw [List.map_cons, List.nodup_cons]
    refine ⟨?_, nodup_map_inj h.2 fun x hx y hy => hi x (by simp [hx]) y (by simp [hy])⟩
    intro hm
    obtain ⟨y, hy, e⟩ := List.mem_map.1 hm
    have := hi y (by simp [hy]) a (by simp) e
    exact h.1 (this ▸ hy)
theorem nodup_of_map {α β : Type} {f : α → β} {l : List α} (h : (l.map f).Nodup) : l.Nodup := by
  induction l with
  | nil => simp
  | cons a l ih =>
    rw [List.map_cons, List.nodup_cons] at h
    rw [List.nodup_cons]
    exact ⟨fun hm => h.1 (List.mem_map_of_mem hm), ih h.2⟩
theorem TW.rename (hw : TW n l) (h : StOk n l (.rename a b)) : TW n (applyS l (.rename a b)) := by
  have h' := h
  obtain ⟨hpa, hpb, hta, hpar, htb, hdir, hab⟩ := h'
  refine ⟨?_, ?_, ?_, ?_, ?_, ?_⟩
  · rw [applyS_rename, List.map_map]
    refine nodup_map_inj (nodup_of_map (nodup_filter hw.nodup)) ?_
    intro x hx y hy e
    obtain ⟨h1, h2⟩ := List.mem_filter.1 hx
    obtain ⟨k1, k2⟩ := List.mem_filter.1 hy
    exact ren_inj hw h h1 k1 (by simpa using h2) (by simpa using k2) e
  · intro x hx hd
    obtain ⟨y, hy, hyb, rfl⟩ := ren_mem.1 hx
    rw [(mv_dir y).1] at hd
    rcases mv_path (a := a) (b := b) y with ⟨h1, h2⟩ | ⟨r, h1, h2⟩ | ⟨h1, h2, h3⟩
    · rw [h2]
      refine (hdir ?_).1
      have := isT_of hw.nodup hy
      rw [h1, hd] at this
      exact this
    · have := name_not_inside (d := a) (hw.dirs y hy hd)
      rw [inside_iff.2 ⟨r, h1⟩] at this
      cases this
    · rw [h3]; exact hw.dirs y hy hd
  · intro x hx
    obtain ⟨y, hy, hyb, rfl⟩ := ren_mem.1 hx
    rcases mv_path (a := a) (b := b) y with ⟨h1, h2⟩ | ⟨r, h1, h2⟩ | ⟨h1, h2, h3⟩
    · rw [h2]; exact hpb
    · have ha2 : isT l a = 2 := by
        apply Classical.byContradiction
        intro hne
        have := none_in hw hne hpa hy
        rw [inside_iff.2 ⟨r, h1⟩] at this
        cases this
      obtain ⟨z, hz, e, hz2⟩ := isT_cases hta
      have hzd : z.dir = true := by rw [ha2] at hz2; split at hz2; assumption; omega
      have hna : nameB a = true := by rw [← e]; exact hw.dirs z hz hzd
      have h3 := hw.paths y hy
      unfold pathB at h3 ⊢
      rw [h1, slashAt_app r (nameB_slash hna)] at h3
      rw [h2, slashAt_app r (nameB_slash (hdir ha2).1)]
      simp only [Bool.and_eq_true] at h3 ⊢
      refine ⟨by simpa using (hdir ha2).1, ?_⟩
      have := h3.2
      simpa using this
    · rw [h3]; exact hw.paths y hy
  · intro x hx k hk
    obtain ⟨y, hy, hyb, rfl⟩ := ren_mem.1 hx
    rcases mv_path (a := a) (b := b) y with ⟨h1, h2⟩ | ⟨r, h1, h2⟩ | ⟨h1, h2, h3⟩
    · rw [h2] at hk ⊢
      obtain ⟨z, hz, e1, e2⟩ := parent_some hpar hk
      have hza : z.path ≠ a := by
        intro e
        have := isT_of hw.nodup hz
        rw [e, e1] at this
        have hnb := (hdir this).1
        rw [nameB_slash hnb] at hk
        cases hk
      have hzb : z.path ≠ b := by
        intro e
        have := isT_of hw.nodup hz
        rw [e, e1] at this
        exact htb this
      refine ⟨z, ren_mem.2 ⟨z, hz, hzb, mv_other hza (name_not_inside (hw.dirs z hz e1))⟩, e1, e2⟩
    · have ha2 : isT l a = 2 := by
        apply Classical.byContradiction
        intro hne
        have := none_in hw hne hpa hy
        rw [inside_iff.2 ⟨r, h1⟩] at this
        cases this
      obtain ⟨z, hz, e, hz2⟩ := isT_cases hta
      have hzd : z.dir = true := by rw [ha2] at hz2; split at hz2; assumption; omega
      have hzb : z.path ≠ b := by rw [e]; exact hab
      rw [h2, slashAt_app r (nameB_slash (hdir ha2).1)] at hk
      injection hk with hk
      refine ⟨mv a b z, ren_mem.2 ⟨z, hz, hzb, rfl⟩, by rw [(mv_dir z).1]; exact hzd, ?_⟩
      rw [mv_self e, h2, ← hk]
      simp
    · rw [h3] at hk ⊢
      obtain ⟨z, hz, e1, e2⟩ := hw.par y hy k hk
      have hzb : z.path ≠ b := by
        intro e
        have := isT_of hw.nodup hz
        rw [e, e1] at this
        exact htb this
      have hza : z.path ≠ a := by
        intro e
        obtain ⟨_, hsp⟩ := slashAt_take hk
        rw [← e2, e] at hsp
        rw [inside_iff.2 ⟨_, hsp⟩] at h2
        cases h2
      exact ⟨z, ren_mem.2 ⟨z, hz, hzb, mv_other hza (name_not_inside (hw.dirs z hz e1))⟩, e1, e2⟩
  · intro x hx hd
    obtain ⟨y, hy, hyb, rfl⟩ := ren_mem.1 hx
    rw [(mv_dir y).1] at hd
    rw [(mv_dir y).2]
    exact hw.ats y hy hd
  · intro x hx z hz hdx hdz e
    obtain ⟨y, hy, hyb, rfl⟩ := ren_mem.1 hx
    obtain ⟨y', hy', hyb', rfl⟩ := ren_mem.1 hz
    rw [(mv_dir y).1] at hdx
    rw [(mv_dir y').1] at hdz
    rw [(mv_dir y).2, (mv_dir y').2] at e
    rw [hw.inj y hy y' hy' hdx hdz e]
theorem TW.apply (hw : TW n l) {s : St} (h : StOk n l s) : TW n (applyS l s) := by
  cases s with
  | mkdir a => exact hw.mkdir h
  | create a i => exact hw.create h
  | rename a b => exact hw.rename h
  | remove a => exact hw.remove
end Go.Proofs.YtfpgbhimgfdddaaGreatDoor
