/- The walks of layer 20 (store): a manifest's numbers, one by one. -/
import Derived.Test.YtfpgbhimgfdddaaGreatDoorStoWalksB
set_option linter.unusedVariables false
set_option linter.unusedSimpArgs false
namespace Go.Proofs.YtfpgbhimgfdddaaGreatDoor
open Go.RowKit Go.Shelf Go.Sort
attribute [local go_sem ↓] Go.wp_at_zero Go.wp_at_succ
attribute [local go_sem] Later.cell Later.frozen

theorem own_shape {w : World} {B n : Nat} {T : TypeId} {v : Value} {xs : List Value} (h : w.ownsRow B T 1 v (n + 1) xs) : ∃ g c, v = .slice (some ⟨g, 0, none⟩) (n + 1) c := by
  rcases h.2 with ⟨h1, h2⟩ | ⟨g, cap, cur, h1, _⟩
  · exact absurd h2 (by omega)
  · exact ⟨g, cap, h1⟩
theorem Blk.low {w w' : World} {g B : Nat} {T : TypeId} {cs : Array Value} (h : Blk w g T cs) (hb : Below B w w') (hg : g < B) : Blk w' g T cs := (hb.block g hg).trans h
theorem Below.low {w w' : World} {A B : Nat} (h : Below B w w') (hA : A ≤ B) : Below A w w' := ⟨h.os, h.tape, h.output, h.size, fun k hk => h.block k (by omega)⟩
set_option maxRecDepth 100000 in
set_option maxHeartbeats 4000000 in
theorem one_calls (b0 n : Nat) (a : Addr) (lo hj : Int) (ps ls gs : List Value) (w : World) (h : Num3 w b0 n ps ls gs) (hn : n ≤ 100) :
    Calls Tryz.prog 100 #[.pointer (some a), .int .i64 lo, .int .i64 hj, .pointer (some ⟨b0, 0, none⟩), .pointer (some ⟨b0 + 1, 0, none⟩), .pointer (some ⟨b0 + 2, 0, none⟩)] w fun e w' =>
      e = .returned (.tuple #[]) ∧ Num3 w' b0 (n + 1) (ps ++ [.pointer (some a)]) (ls ++ [.int .i64 lo]) (gs ++ [.int .i64 hj]) ∧ Below b0 w w' := by
  obtain ⟨ip, hip, hp0, hp1, hp2⟩ := info_parts info_p64
  obtain ⟨ii, hii, hi0, hi1, hi2⟩ := info_parts info_i64
  obtain ⟨vo, vl, vg, k0, k1, k2, ho, hl, hg, hd, hd2⟩ := h.ex
  have c0 : w.cell? ⟨b0, 0, none⟩ = some vo := k0.cell 0
  have c1 : w.cell? ⟨b0 + 1, 0, none⟩ = some vl := k1.cell 0
  have c2 : w.cell? ⟨b0 + 2, 0, none⟩ = some vg := k2.cell 0
  have hsz := k2.lt
  have o1 : ∀ u ∈ [Value.pointer (some a)], u.oneCell' = true := by simp [Value.oneCell']
  have o2 : ∀ u ∈ [Value.int .i64 lo], u.oneCell' = true := by simp [Value.oneCell']
  have o3 : ∀ u ∈ [Value.int .i64 hj], u.oneCell' = true := by simp [Value.oneCell']
  have HK := Lib.hid (⟨k0, k1, k2⟩ : Blk w b0 111 #[vo] ∧ Blk w (b0 + 1) 107 #[vl] ∧ Blk w (b0 + 2) 107 #[vg])
  have H0 : Inv3 w b0 n a lo hj vo vl vg ps ls gs (Array.replicate 15 false) ⟨#[.pointer (some a), .int .i64 lo, .int .i64 hj, .pointer (some ⟨b0, 0, none⟩), .pointer (some ⟨b0 + 1, 0, none⟩), .pointer (some ⟨b0 + 2, 0, none⟩), undef, undef, undef, undef, undef, undef, undef, undef, undef, undef, undef, undef, undef, undef, undef], []⟩ w.drew :=
    ⟨_, _, _, _, _, _, _, _, _, _, _, _, vo, vl, vg, rfl, ⟨fun e => absurd e (by decide), fun e => absurd e (by decide), fun e => absurd e (by decide), fun _ => ⟨rfl, ho⟩, fun e => absurd e (by decide)⟩, ⟨fun e => absurd e (by decide), fun e => absurd e (by decide), fun e => absurd e (by decide), fun _ => ⟨rfl, hl⟩, fun e => absurd e (by decide)⟩, ⟨fun e => absurd e (by decide), fun e => absurd e (by decide), fun e => absurd e (by decide), fun _ => ⟨rfl, hg⟩, fun e => absurd e (by decide)⟩, hd, hd2, (Below.refl _ _).drew, rfl⟩
  clear ho hl hg hd hd2 k0 k1 k2 h
  go_enter Tryz.func100, Tryz.ntmps100
  refine wp_region_inv_tail (l := _) 12 (by kernel_rfl) (by kernel_rfl) (by kernel_rfl) (by kernel_rfl) (by decide) (by kernel_rfl) (Inv3 w b0 n a lo hj vo vl vg ps ls gs) ?h0 ?hs ?he
  case h0 => exact H0
  case he =>
    clear H0
    rintro L a' w' ⟨s9, s10, s11, s12, s13, s14, s15, s16, s17, s18, s19, s20, y0, y1, y2, rfl, p0, p1, p2, d0, d1, hB, hLs⟩ hall
    obtain ⟨rfl, r0⟩ := p0.r1 (hall 3 (by decide))
    obtain ⟨rfl, r1⟩ := p1.r1 (hall 7 (by decide))
    obtain ⟨rfl, r2⟩ := p2.r1 (hall 11 (by decide))
    simp only [List.drop_succ_cons, List.drop_zero]
    have k0 := Blk.low HK.out.1 hB (by omega)
    have k1 := Blk.low HK.out.2.1 hB (by omega)
    have k2 := Blk.low HK.out.2.2 hB (by omega)
    have m0 := k0.cell 0
    have m1 := k1.cell 0
    have m2 := k2.cell 0
    have z0 := k0.frozen 0
    have z1 := k1.frozen 0
    have z2 := k2.frozen 0
    have hfin : Num3 (((w'.setCell ⟨b0, 0, none⟩ s12).setCell ⟨b0 + 1, 0, none⟩ s16).setCell ⟨b0 + 2, 0, none⟩ s20) b0 (n + 1) (ps ++ [.pointer (some a)]) (ls ++ [.int .i64 lo]) (gs ++ [.int .i64 hj]) := by
      have hsame : ∀ g, b0 + 3 ≤ g → (((w'.setCell ⟨b0, 0, none⟩ s12).setCell ⟨b0 + 1, 0, none⟩ s16).setCell ⟨b0 + 2, 0, none⟩ s20).heap[g]? = w'.heap[g]? := fun g hg =>
        ((Below.heap_setCell _ _ _ g (by show g ≠ b0 + 2; omega)).trans (Below.heap_setCell _ _ _ g (by show g ≠ b0 + 1; omega))).trans (Below.heap_setCell _ _ _ g (by show g ≠ b0; omega))
      refine ⟨s12, s16, s20, ?_, ?_, ?_, ownsRow.same r0 fun g hg => hsame g (World.ownsRow.lt r0 g hg).1, ownsRow.same r1 fun g hg => hsame g (World.ownsRow.lt r1 g hg).1, ownsRow.same r2 fun g hg => hsame g (World.ownsRow.lt r2 g hg).1, d0, d1⟩
      · exact ((k0.set_ 0 s12).far (p := ⟨b0 + 1, 0, none⟩) (by show b0 ≠ b0 + 1; omega) _).far (p := ⟨b0 + 2, 0, none⟩) (by show b0 ≠ b0 + 2; omega) _
      · exact ((k1.far (p := ⟨b0, 0, none⟩) (by show b0 + 1 ≠ b0; omega) _).set_ 0 s16).far (p := ⟨b0 + 2, 0, none⟩) (by show b0 + 1 ≠ b0 + 2; omega) _
      · exact ((k2.far (p := ⟨b0, 0, none⟩) (by show b0 + 2 ≠ b0; omega) _).far (p := ⟨b0 + 1, 0, none⟩) (by show b0 + 2 ≠ b0 + 1; omega) _).set_ 0 s20
    have hlow : Below b0 w (((w'.setCell ⟨b0, 0, none⟩ s12).setCell ⟨b0 + 1, 0, none⟩ s16).setCell ⟨b0 + 2, 0, none⟩ s20) := by
      refine (Below.low hB (by omega)).trans ⟨rfl, rfl, rfl, by simp [World.setCell], fun g hg => ?_⟩
      exact ((Below.heap_setCell _ _ _ g (by show g ≠ b0 + 2; omega)).trans (Below.heap_setCell _ _ _ g (by show g ≠ b0 + 1; omega))).trans (Below.heap_setCell _ _ _ g (by show g ≠ b0; omega))
    have HF := Lib.hid hfin
    have HL := Lib.hid hlow
    obtain ⟨g0, e0, h0⟩ := own_shape r0
    obtain ⟨g1, e1, h1⟩ := own_shape r1
    obtain ⟨g2, e2, h2⟩ := own_shape r2
    subst h0 h1 h2
    clear hfin hlow k0 k1 k2 r0 r1 r2 p0 p1 p2 d0 d1 hall
    go_wp2_with fail
    go_end0
    exact ⟨rfl, HF.out, HL.out⟩
  case hs =>
    clear H0
    rintro L a' w' i o hi ⟨s9, s10, s11, s12, s13, s14, s15, s16, s17, s18, s19, s20, y0, y1, y2, rfl, p0, p1, p2, d0, d1, hB, hLs⟩ ho hL haft
    have c0' : w'.cell? ⟨b0, 0, none⟩ = some vo := (hB.cell (p := ⟨b0, 0, none⟩) (by show b0 < _; omega)).trans c0
    have c1' : w'.cell? ⟨b0 + 1, 0, none⟩ = some vl := (hB.cell (p := ⟨b0 + 1, 0, none⟩) (by show b0 + 1 < _; omega)).trans c1
    have c2' : w'.cell? ⟨b0 + 2, 0, none⟩ = some vg := (hB.cell (p := ⟨b0 + 2, 0, none⟩) (by show b0 + 2 < _; omega)).trans c2
    have hB0 : b0 + 3 ≤ w'.heap.size := by have := hB.size; omega
    match i, ho with
    | 0, ho =>
      have ho := (Option.some.inj ho).symm
      subst ho
      have G := Lib.hid (inv3_load0 hLs p0 p1 p2 d0 d1 hB)
      clear p0 p1 p2 d0 d1 haft
      unfold Oper.wp
      go_simp
      exact G.out
    | 1, ho =>
      have ho := (Option.some.inj ho).symm
      subst ho
      have G := Lib.hid (inv3_move0 hLs p0 p1 p2 d0 d1 hB)
      clear p0 p1 p2 d0 d1 haft
      unfold Oper.wp
      go_simp
      exact G.out
    | 2, ho =>
      have ho := (Option.some.inj ho).symm
      subst ho
      have G := Lib.hid (inv3_build0 hLs hB0 p0 p1 p2 d0 d1 hB)
      have hs := p0.m (haft ⟨1, .data⟩ (by simp) rfl)
      subst hs
      clear p0 p1 p2 d0 d1 haft
      unfold Oper.wp
      go_simp
      exact G.out
    | 3, ho =>
      have ho := (Option.some.inj ho).symm
      subst ho
      obtain rfl := p0.l (haft ⟨0, .data⟩ (by simp) rfl)
      obtain ⟨g, rfl, hgc, hgl, _⟩ := p0.b (haft ⟨2, .data⟩ (by simp) rfl)
      have hap := getD_both hL
      have hrow := (p0.r0 hap).2
      refine wp_append_lies w' _ _ _ rfl (b0 + 3) 114 ip (.pointer none) 1 8 Tryz.underlying111 hip hp0 hp1 hp2 rfl (by omega) _ n ps rfl hrow ⟨g, 0, none⟩ 1 1 [.pointer (some a)] rfl rfl ?_ o1 (by omega) (by simp only [maxLen]; omega) (by omega) hB0 w'.heap.size rfl ?_
      · intro j u hj
        match j, hj with
        | 0, hj =>
          injection hj with hj
          subst hj
          exact hgc
        | j + 1, hj => simp at hj
      · intro g2 cap w2 hown hgr hat hlt
        exact inv3_app0 hLs p0 p1 p2 d0 d1 hB rfl hown hgr hat hap hB0
    | 4, ho =>
      have ho := (Option.some.inj ho).symm
      subst ho
      have G := Lib.hid (inv3_load1 hLs p0 p1 p2 d0 d1 hB)
      clear p0 p1 p2 d0 d1 haft
      unfold Oper.wp
      go_simp
      exact G.out
    | 5, ho =>
      have ho := (Option.some.inj ho).symm
      subst ho
      have G := Lib.hid (inv3_move1 hLs p0 p1 p2 d0 d1 hB)
      clear p0 p1 p2 d0 d1 haft
      unfold Oper.wp
      go_simp
      exact G.out
    | 6, ho =>
      have ho := (Option.some.inj ho).symm
      subst ho
      have G := Lib.hid (inv3_build1 hLs hB0 p0 p1 p2 d0 d1 hB)
      have hs := p1.m (haft ⟨5, .data⟩ (by simp) rfl)
      subst hs
      clear p0 p1 p2 d0 d1 haft
      unfold Oper.wp
      go_simp
      exact G.out
    | 7, ho =>
      have ho := (Option.some.inj ho).symm
      subst ho
      obtain rfl := p1.l (haft ⟨4, .data⟩ (by simp) rfl)
      obtain ⟨g, rfl, hgc, hgl, _⟩ := p1.b (haft ⟨6, .data⟩ (by simp) rfl)
      have hap := getD_both hL
      have hrow := (p1.r0 hap).2
      refine wp_append_lies w' _ _ _ rfl (b0 + 3) 2 ii (.int .i64 0) 1 8 Tryz.underlying107 hii hi0 hi1 hi2 rfl (by omega) _ n ls rfl hrow ⟨g, 0, none⟩ 1 1 [.int .i64 lo] rfl rfl ?_ o2 (by omega) (by simp only [maxLen]; omega) (by omega) hB0 w'.heap.size rfl ?_
      · intro j u hj
        match j, hj with
        | 0, hj =>
          injection hj with hj
          subst hj
          exact hgc
        | j + 1, hj => simp at hj
      · intro g2 cap w2 hown hgr hat hlt
        exact inv3_app1 hLs p0 p1 p2 d0 d1 hB rfl hown hgr hat hap hB0
    | 8, ho =>
      have ho := (Option.some.inj ho).symm
      subst ho
      have G := Lib.hid (inv3_load2 hLs p0 p1 p2 d0 d1 hB)
      clear p0 p1 p2 d0 d1 haft
      unfold Oper.wp
      go_simp
      exact G.out
    | 9, ho =>
      have ho := (Option.some.inj ho).symm
      subst ho
      have G := Lib.hid (inv3_move2 hLs p0 p1 p2 d0 d1 hB)
      clear p0 p1 p2 d0 d1 haft
      unfold Oper.wp
      go_simp
      exact G.out
    | 10, ho =>
      have ho := (Option.some.inj ho).symm
      subst ho
      have G := Lib.hid (inv3_build2 hLs hB0 p0 p1 p2 d0 d1 hB)
      have hs := p2.m (haft ⟨9, .data⟩ (by simp) rfl)
      subst hs
      clear p0 p1 p2 d0 d1 haft
      unfold Oper.wp
      go_simp
      exact G.out
    | 11, ho =>
      have ho := (Option.some.inj ho).symm
      subst ho
      obtain rfl := p2.l (haft ⟨8, .data⟩ (by simp) rfl)
      obtain ⟨g, rfl, hgc, hgl, _⟩ := p2.b (haft ⟨10, .data⟩ (by simp) rfl)
      have hap := getD_both hL
      have hrow := (p2.r0 hap).2
      refine wp_append_lies w' _ _ _ rfl (b0 + 3) 2 ii (.int .i64 0) 1 8 Tryz.underlying107 hii hi0 hi1 hi2 rfl (by omega) _ n gs rfl hrow ⟨g, 0, none⟩ 1 1 [.int .i64 hj] rfl rfl ?_ o3 (by omega) (by simp only [maxLen]; omega) (by omega) hB0 w'.heap.size rfl ?_
      · intro j u hj
        match j, hj with
        | 0, hj =>
          injection hj with hj
          subst hj
          exact hgc
        | j + 1, hj => simp at hj
      · intro g2 cap w2 hown hgr hat hlt
        exact inv3_app2 hLs p0 p1 p2 d0 d1 hB rfl hown hgr hat hap hB0
    | i + 12, ho => exact absurd hi (by omega)
end Go.Proofs.YtfpgbhimgfdddaaGreatDoor
