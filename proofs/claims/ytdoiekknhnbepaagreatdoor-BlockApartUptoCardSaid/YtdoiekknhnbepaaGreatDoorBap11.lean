/- Merged (what the claim wants of): AggWalksD, BlkParseA, BlkPostsA, BlkParseA2. -/
import Derived.Test.YtdoiekknhnbepaaGreatDoorBap06
import Derived.Test.YtdoiekknhnbepaaGreatDoorBap08
import Derived.Test.YtdoiekknhnbepaaGreatDoorBap10
set_option linter.unusedVariables false
set_option linter.unusedSimpArgs false
set_option maxRecDepth 100000
set_option maxHeartbeats 8000000
namespace Go.Proofs.YtdoiekknhnbepaaGreatDoor
section
open Go.RowKit
open Lib renaming hid → Jh
open List renaming setIfInBounds_toArray → Ja, set_cons_zero → Jb, set_cons_succ → Jc
attribute [local go_sem ↓] Go.wp_at_zero Go.wp_at_succ
attribute [local go_sem] Later.cell
theorem Kfk {s : List UInt8} {st : Nat × Nat} {v : Nat} {t : Nat × Nat} (h : takeU s st = (v, t)) : v < 2 ^ 64 := by
 obtain ⟨i, e⟩ := st
 by_cases he : e = 0
 ·subst he; rcases Kec s i with ⟨v', j, h1, _, h3⟩ | ⟨j, e, h1, _⟩
  ·rw [h1] at h; injection h with h _; omega
  ·rw [h1] at h; injection h with h _; omega
 ·rw [Kqz s (i, e) he] at h; injection h with h _; omega
theorem Qga {s : List UInt8} {n i e : Nat} (h : Kan s 0 = (n, i, e)) (he : e ≠ 0) : ruAt s 0 = none := by
 have h' : Kan s ((0 : Nat) : Int) = (n, i, e) := h; rw [Kcz] at h'; unfold outOf at h'; unfold ruAt
 cases hr : readU (s.drop 0) with
 | error c => rfl
 | ok x =>
  rw [hr] at h'; injection h' with _ h'; injection h' with _ h'; exact absurd h'.symm he
theorem Qfn {s : List UInt8} {n i : Nat} (h : Kan s 0 = (n, i, 0)) : ruAt s 0 = some (n, i) ∧ i ≤ s.length := by
 have h' : Kan s ((0 : Nat) : Int) = (n, i, 0) := h; rw [Kcz] at h'; unfold outOf at h'; unfold ruAt
 cases hr : readU (s.drop 0) with
 | error c =>
  rw [hr] at h'; injection h' with _ h'; injection h' with _ h'; exact absurd h' (Kdf hr)
 | ok x =>
  obtain ⟨x1, x2⟩ := x; rw [hr] at h'; injection h' with h1 h'; injection h' with h2 _; have hl := Kdd hr; rw [List.length_drop] at hl; subst h1 h2; exact ⟨rfl, by omega⟩
theorem Qct (i n : Nat) {g : Nat} (h : i + (g + 1) = n) (hn : n < 2 ^ 64) : Value.int .u64 (IntKind.u64.wrap ((i : Int) + 1)) = Value.int .u64 ((i + 1 : Nat) : Int) := by
 rw [show ((i : Int) + 1) = ((i + 1 : Nat) : Int) by omega, IntWalk.u64_in _ (by omega)]
theorem ru_lt {s : List UInt8} {i v j : Nat} (h : ruAt s i = some (v, j)) : v < 2 ^ 64 := by
 rcases Kec s i with ⟨v', j', _, h2, h3⟩ | ⟨_, _, _, _, h2⟩
 ·rw [h2] at h; injection h with h; injection h with h _; omega
 ·rw [h2] at h; cases h
theorem Kzj (a b : Nat) : Nat.min a b ≤ b := Nat.min_le_right a b
theorem Kyp (a b : Nat) (z : Int) (hz : z = (b : Int)) : min (a : Int) z = ((Nat.min a b : Nat) : Int) := by
 subst hz; show _ = ((min a b : Nat) : Int)
 omega
theorem Kjo (a b c : Nat) (h : Nat.min a b = c) : c ≤ b ∧ ∀ z : Int, z = (b : Int) → min (a : Int) z = (c : Int) := by
 subst h; exact ⟨Kzj a b, fun z hz => Kyp a b z hz⟩
theorem Kxs (c : Nat) (h : c ≤ 4611686018427387905) : IntKind.i64.wrap (c : Int) = (c : Int) := by rw [IntKind.wrap_i64]; omega
theorem Qgp (v2 : Nat) : ∃ ct : Nat, ct ≤ 4611686018427387905 ∧ IntKind.i64.wrap (ct : Int) = (ct : Int) ∧ min (v2 : Int) 4611686018427387905 = (ct : Int) ∧ Hid (Nat.min v2 4611686018427387905 = ct) :=
 ⟨_, (Kjo _ _ _ rfl).1, Kxs _ (Kjo _ _ _ rfl).1, (Kjo _ _ _ rfl).2 _ rfl, Jh rfl⟩
theorem Qec (a : Int) (v : Nat) (h1 : 0 ≤ a) (h2 : a ≤ 1125899906842624) (h : v ≤ 1125899906842624) : wrap64 (a + (v : Int)) = a + (v : Int) ∧ IntKind.i64.wrap (v : Int) = (v : Int) ∧ wrap64 (v : Int) = (v : Int) := by
 refine ⟨?_, ?_, ?_⟩
 ·unfold wrap64; omega
 ·rw [IntKind.wrap_i64]; omega
 ·unfold wrap64; omega
theorem Kun : (Tryz.prog.info? 135).map (fun i => (i.zero, i.size, i.bytes)) = some (some (.agg #[.int .i64 0, .int .i64 0, .int .u64 0, .int .u64 0, .int .u64 0, .int .u64 0]), 6, 48) := by kernel_rfl
def ADecO (w : World) (r : Option (List Wnd)) (en : Ending) (w' : World) : Prop := match r with
 | some l => ∃ v, en = .returned (.tuple #[v, .int .i64 0]) ∧ w'.ownsRow w.heap.size 135 6 v l.length (l.flatMap Kaw) ∧ Below w.heap.size w w'
 | none => ∃ f, f ≠ 0 ∧ en = .returned (.tuple #[.slice none 0 0, .int .i64 ((f : Nat) : Int)]) ∧ Below w.heap.size w w'
theorem Qdr {s : List UInt8} {i : Nat} {v1 v2 v3 v4 v5 v6 : Nat} {s1 s2 s3 s4 s5 s6 : Nat × Nat} (h1 : takeU s (i, 0) = (v1, s1)) (h2 : takeU s s1 = (v2, s2)) (h3 : takeU s s2 = (v3, s3)) (h4 : takeU s s3 = (v4, s4)) (h5 : takeU s s4 = (v5, s5)) (h6 : takeU s s5 = (v6, s6)) (hi : i ≤ s.length) :
  (s6.2 ≠ 0 ∧ ∀ a first, wndR a first s i = none) ∨ (s6.2 = 0 ∧ (i < s6.1 ∧ s6.1 ≤ s.length) ∧ ∀ a first, wndR a first s i = if v1 ≤ 1125899906842624 ∧ Kdm ⟨a.start + v1, (Nat.min v2 4611686018427387905 : Nat), a.sum ^^^ v3, a.min ^^^ v4, a.max ^^^ v5, a.last ^^^ v6⟩ a first = 0 then
   some (⟨a.start + v1, (Nat.min v2 4611686018427387905 : Nat), a.sum ^^^ v3, a.min ^^^ v4, a.max ^^^ v5, a.last ^^^ v6⟩, s6.1) else none) := by
 have off : ∀ {st : Nat × Nat} {v : Nat} {t : Nat × Nat}, takeU s st = (v, t) → st.2 ≠ 0 → t.2 ≠ 0 := by
  intro st v t h hs; rw [Kqz s st hs] at h; injection h with _ h; rw [← h]; exact hs
 rcases Kec s i with ⟨x1, j1, e1, r1, _⟩ | ⟨j1, e, e1, he, r1⟩
 rotate_left
 ·rw [e1] at h1; injection h1 with _ h1; subst h1; refine .inl ⟨off h6 (off h5 (off h4 (off h3 (off h2 he)))), fun a first => ?_⟩; unfold wndR; rw [r1]
 rw [e1] at h1; injection h1 with h1 h1'; subst h1 h1'; have l1 := Kbr hi r1; rcases Kec s j1 with ⟨x2, j2, e2, r2, _⟩ | ⟨j2, e, e2, he, r2⟩
 rotate_left
 ·rw [e2] at h2; injection h2 with _ h2; subst h2; refine .inl ⟨off h6 (off h5 (off h4 (off h3 he))), fun a first => ?_⟩; unfold wndR; rw [r1]; dsimp only; rw [r2]
 rw [e2] at h2; injection h2 with h2 h2'; subst h2 h2'; have l2 := Kbr l1.2 r2; rcases Kec s j2 with ⟨x3, j3, e3, r3, _⟩ | ⟨j3, e, e3, he, r3⟩
 rotate_left
 ·rw [e3] at h3; injection h3 with _ h3; subst h3; refine .inl ⟨off h6 (off h5 (off h4 he)), fun a first => ?_⟩; unfold wndR; rw [r1]; dsimp only; rw [r2]; dsimp only; rw [r3]
 rw [e3] at h3; injection h3 with h3 h3'; subst h3 h3'; have l3 := Kbr l2.2 r3; rcases Kec s j3 with ⟨x4, j4, e4, r4, _⟩ | ⟨j4, e, e4, he, r4⟩
 rotate_left
 ·rw [e4] at h4; injection h4 with _ h4; subst h4; refine .inl ⟨off h6 (off h5 he), fun a first => ?_⟩; unfold wndR; rw [r1]; dsimp only; rw [r2]; dsimp only; rw [r3]; dsimp only; rw [r4]
 rw [e4] at h4; injection h4 with h4 h4'; subst h4 h4'; have l4 := Kbr l3.2 r4; rcases Kec s j4 with ⟨x5, j5, e5, r5, _⟩ | ⟨j5, e, e5, he, r5⟩
 rotate_left
 ·rw [e5] at h5; injection h5 with _ h5; subst h5; refine .inl ⟨off h6 he, fun a first => ?_⟩; unfold wndR; rw [r1]; dsimp only; rw [r2]; dsimp only; rw [r3]; dsimp only; rw [r4]; dsimp only; rw [r5]
 rw [e5] at h5; injection h5 with h5 h5'; subst h5 h5'; have l5 := Kbr l4.2 r5; rcases Kec s j5 with ⟨x6, j6, e6, r6, _⟩ | ⟨j6, e, e6, he, r6⟩
 rotate_left
 ·rw [e6] at h6; injection h6 with _ h6; subst h6; refine .inl ⟨he, fun a first => ?_⟩; unfold wndR; rw [r1]; dsimp only; rw [r2]; dsimp only; rw [r3]; dsimp only; rw [r4]; dsimp only; rw [r5]; dsimp only; rw [r6]
 rw [e6] at h6; injection h6 with h6 h6'; subst h6 h6'; have l6 := Kbr l5.2 r6; refine .inr ⟨rfl, ⟨by omega, l6.2⟩, fun a first => ?_⟩; unfold wndR; rw [r1]; dsimp only; rw [r2]; dsimp only; rw [r3]; dsimp only; rw [r4]; dsimp only; rw [r5]; dsimp only; rw [r6]
structure ADec (w : World) (q : Nat) (s : ByteArray) (st : Nat × Nat) (a : Wnd) (L : List Wnd) (v : Value) (wr : World) : Prop where
 n : NumAt (q + 1) q (q + 2) s st wr
 h : Blk wr (q + 3) 135 #[.int .i64 a.start, .int .i64 a.count, .int .u64 (a.sum : Int), .int .u64 (a.min : Int), .int .u64 (a.max : Int), .int .u64 (a.last : Int)]
 o : wr.ownsRow (q + 4) 135 6 v L.length (L.flatMap Kaw)
 r : Below q w wr
theorem Krj (s : ByteArray) (w : World) (hs_ : s.size ≤ 1099511627776) :
  Calls Tryz.prog 86 #[.string s] w (ADecO w (aggR s.data.toList)) := by
 have hs : s.size ≤ 140737488351232 := by omega
 have hmf : ∀ (fn : Fn) (first cap : Array Value) (w : World), (Instr.makeFunc fn first cap).run Tryz.prog w = .ok (.func fn first cap) w := fun _ _ _ _ => rfl
 obtain ⟨n, i0, e, hr⟩ : ∃ v n e, Kan s.data.toList 0 = (v, n, e) := ⟨_, _, _, rfl⟩; have HRU := Jh (fun w => Kam s 0 n i0 e hr hs w); have HR := Jh hr; have hb1 : Below w.heap.size w ((w.alloc (.cells #[.string s] 9)).alloc (.cells #[.int .i64 0] 29)) := ((Below.refl _ _).alloc (Nat.le_refl _) _).alloc (by simp) _; have hs1 : Blk ((w.alloc (.cells #[.string s] 9)).alloc (.cells #[.int .i64 0] 29)) w.heap.size 9 #[.string s] := (Blk.new _ _ _).alloc _; have he1 : Blk ((w.alloc (.cells #[.string s] 9)).alloc (.cells #[.int .i64 0] 29)) (w.heap.size + 1) 29 #[.int .i64 0] := Blk.newAt (by simp); have hz1 : ((w.alloc (.cells #[.string s] 9)).alloc (.cells #[.int .i64 0] 29)).heap.size = w.heap.size + 2 := by simp
 clear hr; go_enter Tryz.func86, Tryz.ntmps86
 go_upto_region 1 with fail
 obtain ⟨w1, hw1⟩ : ∃ w1, (w.alloc (.cells #[.string s] 9)).alloc (.cells #[.int .i64 0] 29) = w1 := ⟨_, rfl⟩; rw [hw1] at hb1 hs1 he1 hz1; rw [hw1]; obtain ⟨q, hq⟩ : ∃ q, w.heap.size = q := ⟨_, rfl⟩; rw [hq] at hb1 hs1 he1 hz1
 try rw [hq]
 have HQ := Jh hq; clear hw1 hq; have c0 : w1.cell? ⟨q, 0, none⟩ = some (.string s) := hs1.cell 0; have c1 : w1.cell? ⟨q + 1, 0, none⟩ = some (.int .i64 0) := he1.cell 0; have z1 := he1.frozen 0; go_wp2_with fail
 refine (HRU.out w1).mono ?_; rintro _ _ ⟨rfl, rfl⟩; go_upto_region 2 with fail
 have hb2 : Below q w ((w1.setCell ⟨q + 1, 0, none⟩ (.int .i64 (e : Int))).alloc (.cells #[.int .i64 (i0 : Int)] 3)) := (hb1.setCell (p := ⟨q + 1, 0, none⟩) (by simp) _).alloc (by simp [World.setCell]; omega) _
 have hn2 : NumAt (q + 1) q (q + 2) s (i0, e) ((w1.setCell ⟨q + 1, 0, none⟩ (.int .i64 (e : Int))).alloc (.cells #[.int .i64 (i0 : Int)] 3)) :=
  ⟨(he1.set_ 0 _).alloc _, (hs1.far (p := ⟨q + 1, 0, none⟩) (by simp) _).alloc _, Blk.newAt (by simp [World.setCell, hz1])⟩
 have hz2 : ((w1.setCell ⟨q + 1, 0, none⟩ (.int .i64 (e : Int))).alloc (.cells #[.int .i64 (i0 : Int)] 3)).heap.size = q + 3 := by simp [World.setCell, hz1]
 obtain ⟨w2, hw2⟩ : ∃ w2, (w1.setCell ⟨q + 1, 0, none⟩ (.int .i64 (e : Int))).alloc (.cells #[.int .i64 (i0 : Int)] 3) = w2 := ⟨_, rfl⟩; have hp2 : (w1.setCell ⟨q + 1, 0, none⟩ (.int .i64 (e : Int))).heap.size = q + 2 := by simp [World.setCell, hz1]
 rw [hw2] at hb2 hn2 hz2; rw [hw2]
 try rw [hp2]
 try rw [hz1]
 clear hw2 hb1 hs1 he1 hz1 c0 c1 z1; have HB2 := Jh hb2; have HN2 := Jh hn2; have c1 : w2.cell? ⟨q + 1, 0, none⟩ = some (.int .i64 (e : Int)) := hn2.e.cell 0; have z1 := hn2.e.frozen 0
 by_cases h0 : e = 0
 ·subst h0; go_upto_block 0 with fail
  obtain ⟨hru, hi0⟩ := Qfn HR.out; have HNB : Hid (n < 2 ^ 64) := Jh (ru_lt hru); have ha3 : Blk (w2.alloc (.cells #[.int .i64 wnd0.start, .int .i64 wnd0.count, .int .u64 (wnd0.sum : Int), .int .u64 (wnd0.min : Int), .int .u64 (wnd0.max : Int), .int .u64 (wnd0.last : Int)] 135)) (q + 3) 135 #[.int .i64 wnd0.start, .int .i64 wnd0.count, .int .u64 (wnd0.sum : Int), .int .u64 (wnd0.min : Int), .int .u64 (wnd0.max : Int), .int .u64 (wnd0.last : Int)] := Blk.newAt hz2.symm; have hc3 : Below w2.heap.size w2 (w2.alloc (.cells #[.int .i64 wnd0.start, .int .i64 wnd0.count, .int .u64 (wnd0.sum : Int), .int .u64 (wnd0.min : Int), .int .u64 (wnd0.max : Int), .int .u64 (wnd0.last : Int)] 135)) := (Below.refl _ _).alloc (Nat.le_refl _) _
  have hL0 : ADec w q s (i0, 0) wnd0 [] (.slice none 0 0) (w2.alloc (.cells #[.int .i64 wnd0.start, .int .i64 wnd0.count, .int .u64 (wnd0.sum : Int), .int .u64 (wnd0.min : Int), .int .u64 (wnd0.max : Int), .int .u64 (wnd0.last : Int)] 135)) :=
   ⟨⟨hn2.e.alloc _, hn2.b.alloc _, hn2.a.alloc _⟩, ha3, World.ownsRow_nil _ _ _ _, hb2.trans (hc3.mono (by omega))⟩
  obtain ⟨w3, hw3⟩ : ∃ w3, w2.alloc (.cells #[.int .i64 wnd0.start, .int .i64 wnd0.count, .int .u64 (wnd0.sum : Int), .int .u64 (wnd0.min : Int), .int .u64 (wnd0.max : Int), .int .u64 (wnd0.last : Int)] 135) = w3 := ⟨_, rfl⟩; have hw3' : w2.alloc (.cells #[.int .i64 0, .int .i64 0, .int .u64 0, .int .u64 0, .int .u64 0, .int .u64 0] 135) = w3 := hw3; rw [hw3] at hL0
  try rw [hw3']
  try rw [hz2]
  have HL0 := Jh hL0; have HRU0 := Jh hru; clear hw3 hw3' ha3 hc3 hL0 hb2 hn2 hz2 hp2 c1 z1 hru; go_cut [2] (fun s2 wx => ∃ (at_ : Nat) (a : Wnd) (L : List Wnd), wndsR s.data.toList n wnd0 true i0 = some (L, at_) ∧ at_ ≤ s.data.toList.length ∧ ADec w q s (at_, 0) a L s2 wx)
  case first =>
   go_wp2_with fail
   go_loopg [2, 8] n (fun g s2 s8 wr => ∃ (i at_ : Nat) (a : Wnd) (L : List Wnd), i + g = n ∧ s8 = .int .u64 (i : Int) ∧ at_ ≤ s.data.toList.length ∧ ADec w q s (at_, 0) a L s2 wr ∧ (0 ≤ a.start ∧ a.start ≤ 1125899906842624 ∧ Kay a) ∧ L.length ≤ at_ ∧ wndsR s.data.toList n wnd0 true i0 = (match wndsR s.data.toList g a (decide (i = 0)) at_ with | none => none | some (l, j) => some (L ++ l, j)))
   case atStart => exact ⟨0, i0, wnd0, [], by omega, rfl, hi0, HL0.out, Kxg, Nat.zero_le _, by simp; cases wndsR s.data.toList n wnd0 true i0 <;> rfl⟩
   case round =>
    obtain ⟨i, at_, a, L, hi, rfl, hat, hl, hab, hll, hws⟩ := hrel
    cases gk with
    | zero =>
     have hin : ¬ i < n := by omega
     have el : decide (i < n) = false := decide_eq_false hin
     have hws2 : wndsR s.data.toList n wnd0 true i0 = some (L, at_) := by
      rw [hws]; show some (L ++ [], at_) = _
      rw [List.append_nil]
     clear hws; go_wp2_with fail
     go_meet
     exact ⟨at_, a, L, hws2, hat, hl⟩
    | succ g =>
     have hin : i < n := by omega
     have el : decide (i < n) = true := decide_eq_true hin; have HI := Jh hi; have HWS := Jh hws; have HL := Jh hl; have HAB := Jh hab.2.2; have HST := Jh (⟨hab.1, hab.2.1⟩ : 0 ≤ a.start ∧ a.start ≤ 1125899906842624); have HLL := Jh hll; obtain ⟨v1, s1, ht1⟩ : ∃ v t, takeU s.data.toList (at_, 0) = (v, t) := ⟨_, _, rfl⟩; have HT1 := Jh ht1; have HV1 : Hid (v1 < 2 ^ 64) := Jh (Kfk ht1); obtain ⟨v2, s2, ht2⟩ : ∃ v t, takeU s.data.toList s1 = (v, t) := ⟨_, _, rfl⟩; have HT2 := Jh ht2; have HV2 : Hid (v2 < 2 ^ 64) := Jh (Kfk ht2); obtain ⟨v3, s3, ht3⟩ : ∃ v t, takeU s.data.toList s2 = (v, t) := ⟨_, _, rfl⟩; have HT3 := Jh ht3; have HV3 : Hid (v3 < 2 ^ 64) := Jh (Kfk ht3); obtain ⟨v4, s4, ht4⟩ : ∃ v t, takeU s.data.toList s3 = (v, t) := ⟨_, _, rfl⟩; have HT4 := Jh ht4; have HV4 : Hid (v4 < 2 ^ 64) := Jh (Kfk ht4); obtain ⟨v5, s5, ht5⟩ : ∃ v t, takeU s.data.toList s4 = (v, t) := ⟨_, _, rfl⟩; have HT5 := Jh ht5; have HV5 : Hid (v5 < 2 ^ 64) := Jh (Kfk ht5); obtain ⟨v6, s6, ht6⟩ : ∃ v t, takeU s.data.toList s5 = (v, t) := ⟨_, _, rfl⟩; have HT6 := Jh ht6; have HV6 : Hid (v6 < 2 ^ 64) := Jh (Kfk ht6); have HSIX := Jh (Qdr ht1 ht2 ht3 ht4 ht5 ht6 hat); have hq4 : q + 4 ≤ wr.heap.size := by have := hl.h.lt; omega
     have b0 : wr.cell? ⟨q + 3, 0, none⟩ = some (.int .i64 a.start) := hl.h.cell 0; have b1 : wr.cell? ⟨q + 3, 1, none⟩ = some (.int .i64 a.count) := hl.h.cell 1; have b2 : wr.cell? ⟨q + 3, 2, none⟩ = some (.int .u64 (a.sum : Int)) := hl.h.cell 2; have b3 : wr.cell? ⟨q + 3, 3, none⟩ = some (.int .u64 (a.min : Int)) := hl.h.cell 3; have b4 : wr.cell? ⟨q + 3, 4, none⟩ = some (.int .u64 (a.max : Int)) := hl.h.cell 4; have b5 : wr.cell? ⟨q + 3, 5, none⟩ = some (.int .u64 (a.last : Int)) := hl.h.cell 5; clear ht1 ht2 ht3 ht4 ht5 ht6 hi hws hab hll; have hc4 : Below wr.heap.size wr (wr.alloc (.cells #[.int .i64 a.start, .int .i64 a.count, .int .u64 (a.sum : Int), .int .u64 (a.min : Int), .int .u64 (a.max : Int), .int .u64 (a.last : Int)] 135)) := (Below.refl _ _).alloc (Nat.le_refl _) _; have hx4 : Blk (wr.alloc (.cells #[.int .i64 a.start, .int .i64 a.count, .int .u64 (a.sum : Int), .int .u64 (a.min : Int), .int .u64 (a.max : Int), .int .u64 (a.last : Int)] 135)) wr.heap.size 135 #[.int .i64 a.start, .int .i64 a.count, .int .u64 (a.sum : Int), .int .u64 (a.min : Int), .int .u64 (a.max : Int), .int .u64 (a.last : Int)] := Blk.new _ _ _; go_upto_region 10 with fail
     obtain ⟨w4, hw4⟩ : ∃ w4, wr.alloc (.cells #[.int .i64 a.start, .int .i64 a.count, .int .u64 (a.sum : Int), .int .u64 (a.min : Int), .int .u64 (a.max : Int), .int .u64 (a.last : Int)] 135) = w4 := ⟨_, rfl⟩; obtain ⟨qw, hqw⟩ : ∃ qw, wr.heap.size = qw := ⟨_, rfl⟩; rw [hw4] at hc4 hx4
     try rw [hw4]
     rw [hqw] at hx4 hq4
     try rw [hqw]
     have HN4 : Hid (NumAt (q + 1) q (q + 2) s (at_, 0) w4) := Jh ⟨HL.out.n.e.below hc4 HL.out.n.e.lt, HL.out.n.b.below hc4 HL.out.n.b.lt, HL.out.n.a.below hc4 HL.out.n.a.lt⟩; have HH4 := Jh (HL.out.h.below hc4 HL.out.h.lt); have HO4 := Jh (Kda HL.out.o hc4); have HOWQ : Hid (u2.ownBlock ≠ some qw) := Jh (fun e => by have := (World.ownsRow.lt HL.out.o qw e).2; omega); have HR4 := Jh (HL.out.r.trans (hc4.mono (by omega))); have HX4 := Jh hx4; clear hw4 hqw hc4 hx4 b0 b1 b2 b3 b4 b5 hl; have HC1 := Jh (Kcx (q + 1) q (q + 2) s (at_, 0) w4 HN4.out hs); unfold Kfh at HC1; rw [HT1.out] at HC1; dsimp only at HC1; go_wp2_with fail
     refine HC1.out.mono ?_; rintro _ w5 ⟨rfl, hn5, hk5⟩; have HN5 := Jh hn5; have HH5 := Jh (HH4.out.kept hk5 HH4.out.lt (by simp)); have HO5 := Jh (Kex HO4.out hk5 (by simp)); have HX5 := Jh (HX4.out.kept hk5 HX4.out.lt (by simp; omega)); have HR5 := Jh (HR4.out.trans ((hk5.mono (B' := q) (by have := HH4.out.lt; omega) (fun _ _ h => h)).below (by simp))); clear hn5 hk5; have HC2 := Jh (Kcx (q + 1) q (q + 2) s s1 w5 HN5.out hs); unfold Kfh at HC2; rw [HT2.out] at HC2; dsimp only at HC2; go_wp2_with fail
     refine HC2.out.mono ?_; rintro _ w6 ⟨rfl, hn6, hk6⟩; have HN6 := Jh hn6; have HH6 := Jh (HH5.out.kept hk6 HH5.out.lt (by simp)); have HO6 := Jh (Kex HO5.out hk6 (by simp)); have HX6 := Jh (HX5.out.kept hk6 HX5.out.lt (by simp; omega)); have HR6 := Jh (HR5.out.trans ((hk6.mono (B' := q) (by have := HH5.out.lt; omega) (fun _ _ h => h)).below (by simp))); clear hn6 hk6; go_wp2_with fail
     refine (Kgv qw w6).mono ?_; rintro _ w7 ⟨rfl, h7⟩; have HN7 : Hid (NumAt (q + 1) q (q + 2) s s2 w7) := Jh ⟨HN6.out.e.below h7 HN6.out.e.lt, HN6.out.b.below h7 HN6.out.b.lt, HN6.out.a.below h7 HN6.out.a.lt⟩; have HH7 := Jh (HH6.out.below h7 HH6.out.lt); have HO7 := Jh (Kda HO6.out h7); have HX7 := Jh (HX6.out.below h7 HX6.out.lt); have HR7 := Jh (HR6.out.trans (h7.mono (by have := HH6.out.lt; omega))); clear h7; unfold fldsV; have ipt0 : ∀ w : World, (Instr.index 246 (.agg #[.pointer (some ⟨qw, 2, none⟩), .pointer (some ⟨qw, 3, none⟩), .pointer (some ⟨qw, 4, none⟩), .pointer (some ⟨qw, 5, none⟩)]) (.int .i64 0)).run Tryz.prog w = .ok (.pointer (some ⟨qw, 2, none⟩)) w := fun w => by kernel_rfl
     have ipt1 : ∀ w : World, (Instr.index 246 (.agg #[.pointer (some ⟨qw, 2, none⟩), .pointer (some ⟨qw, 3, none⟩), .pointer (some ⟨qw, 4, none⟩), .pointer (some ⟨qw, 5, none⟩)]) (.int .i64 1)).run Tryz.prog w = .ok (.pointer (some ⟨qw, 3, none⟩)) w := fun w => by kernel_rfl
     have ipt2 : ∀ w : World, (Instr.index 246 (.agg #[.pointer (some ⟨qw, 2, none⟩), .pointer (some ⟨qw, 3, none⟩), .pointer (some ⟨qw, 4, none⟩), .pointer (some ⟨qw, 5, none⟩)]) (.int .i64 2)).run Tryz.prog w = .ok (.pointer (some ⟨qw, 4, none⟩)) w := fun w => by kernel_rfl
     have ipt3 : ∀ w : World, (Instr.index 246 (.agg #[.pointer (some ⟨qw, 2, none⟩), .pointer (some ⟨qw, 3, none⟩), .pointer (some ⟨qw, 4, none⟩), .pointer (some ⟨qw, 5, none⟩)]) (.int .i64 3)).run Tryz.prog w = .ok (.pointer (some ⟨qw, 5, none⟩)) w := fun w => by kernel_rfl
     have hqq : q + 4 ≤ qw := hq4; go_upto_block 2 with fail
     go_cut [] (fun wx => Below q w wx ∧ Blk wx (q + 3) 135 #[.int .i64 a.start, .int .i64 a.count, .int .u64 (a.sum : Int), .int .u64 (a.min : Int), .int .u64 (a.max : Int), .int .u64 (a.last : Int)] ∧ wx.ownsRow (q + 4) 135 6 u2 L.length (L.flatMap Kaw) ∧ NumAt (q + 1) q (q + 2) s s6 wx ∧ Blk wx qw 135 #[.int .i64 a.start, .int .i64 a.count, .int .u64 ((a.sum ^^^ v3 : Nat) : Int), .int .u64 ((a.min ^^^ v4 : Nat) : Int), .int .u64 ((a.max ^^^ v5 : Nat) : Int), .int .u64 ((a.last ^^^ v6 : Nat) : Int)])
     case first =>
      go_wp2_with fail
      go_loopg [36] 4 (fun g s36 wr => ∃ k : Nat, k + g = 4 ∧ s36 = .int .i64 (k : Int) ∧ k ≤ 4 ∧ NumAt (q + 1) q (q + 2) s (match k with | 0 => s2 | 1 => s3 | 2 => s4 | 3 => s5 | _ => s6) wr ∧ Below q w wr ∧ Blk wr (q + 3) 135 #[.int .i64 a.start, .int .i64 a.count, .int .u64 (a.sum : Int), .int .u64 (a.min : Int), .int .u64 (a.max : Int), .int .u64 (a.last : Int)] ∧ wr.ownsRow (q + 4) 135 6 u2 L.length (L.flatMap Kaw) ∧ Blk wr qw 135 (match k with | 0 => #[.int .i64 a.start, .int .i64 a.count, .int .u64 (a.sum : Int), .int .u64 (a.min : Int), .int .u64 (a.max : Int), .int .u64 (a.last : Int)] | 1 => #[.int .i64 a.start, .int .i64 a.count, .int .u64 ((a.sum ^^^ v3 : Nat) : Int), .int .u64 (a.min : Int), .int .u64 (a.max : Int), .int .u64 (a.last : Int)] | 2 => #[.int .i64 a.start, .int .i64 a.count, .int .u64 ((a.sum ^^^ v3 : Nat) : Int), .int .u64 ((a.min ^^^ v4 : Nat) : Int), .int .u64 (a.max : Int), .int .u64 (a.last : Int)] | 3 => #[.int .i64 a.start, .int .i64 a.count, .int .u64 ((a.sum ^^^ v3 : Nat) : Int), .int .u64 ((a.min ^^^ v4 : Nat) : Int), .int .u64 ((a.max ^^^ v5 : Nat) : Int), .int .u64 (a.last : Int)] | _ => #[.int .i64 a.start, .int .i64 a.count, .int .u64 ((a.sum ^^^ v3 : Nat) : Int), .int .u64 ((a.min ^^^ v4 : Nat) : Int), .int .u64 ((a.max ^^^ v5 : Nat) : Int), .int .u64 ((a.last ^^^ v6 : Nat) : Int)]))
      case atStart => exact ⟨0, rfl, rfl, by omega, HN7.out, HR7.out, HH7.out, HO7.out, HX7.out⟩
      case round =>
       obtain ⟨k, hk, rfl, hk4, hn2, hr2, hh2, ho2, hx2⟩ := hrel; have HN2 := Jh hn2; have HR2 := Jh hr2; have HH2 := Jh hh2; have HO2 := Jh ho2; have HX2 := Jh hx2; clear hn2 hr2 hh2 ho2 hx2; rcases (by omega : k = 0 ∨ k = 1 ∨ k = 2 ∨ k = 3 ∨ k = 4) with rfl | rfl | rfl | rfl | rfl
       ·obtain rfl : gk = 4 := by omega
        have x0 : wr.cell? ⟨qw, 2, none⟩ = some (.int .u64 (a.sum : Int)) := HX2.out.cell 2; have hS : wr.drew.cell? ⟨qw, 2, none⟩ = some (.int .u64 (a.sum : Int)) ∧ True := ⟨x0, trivial⟩; have HNC := Jh (Kcx (q + 1) q (q + 2) s s2 wr.drew ⟨HN2.out.e, HN2.out.b, HN2.out.a⟩ hs); unfold Kfh at HNC; rw [HT3.out] at HNC; dsimp only at HNC; have hxo : bits .xor .u64 (a.sum : Int) (v3 : Int) = ((a.sum ^^^ v3 : Nat) : Int) := bits_xor_u64_nat _ _ (by have := HAB.out.1; omega) (by have := HV3.out; omega); obtain ⟨y, hy⟩ : ∃ y, a.sum ^^^ v3 = y := ⟨_, rfl⟩; rw [hy] at hxo; have HY := Jh hy; clear hy; go_upto_region 14 with fail
        refine Kas (fun w' => w'.cell? ⟨qw, 2, none⟩ = some (.int .u64 (a.sum : Int)) ∧ True) 6 8 (by kernel_rfl) rfl ?_; rw [show Array.replicate 8 false = #[false, false, false, false, false, false, false, false] from rfl]; refine Kaa (i := 0) (d := some 39) rfl rfl (by kernel_rfl) (by kernel_rfl) (by kernel_rfl) rfl (fun _ _ _ h => h) (by rfl) (fun w => by go_simp; try rfl) (fun _ => hS) ?_; simp only [Act.put, Ja, Jb, Jc]; refine Kaa (i := 1) (d := some 40) rfl rfl (by kernel_rfl) (by kernel_rfl) (by kernel_rfl) rfl (fun _ _ _ h => h) (by rfl) (fun w => by go_simp; try rfl) (fun _ => hS) ?_; simp only [Act.put, Ja, Jb, Jc]; refine Kaf (i := 2) (d := some 41) rfl rfl (by kernel_rfl) (by kernel_rfl) (by kernel_rfl) (by kernel_rfl) rfl (fun _ _ _ h => h) (.inl ⟨by rfl, fun w hw => by (obtain ⟨ha, hb⟩ := hw; go_simp; try rfl)⟩) hS ?_; simp only [Act.put, Ja, Jb, Jc]; refine Kaa (i := 3) (d := some 42) rfl rfl (by kernel_rfl) (by kernel_rfl) (by kernel_rfl) rfl (fun _ _ _ h => h) (by rfl) (fun w => by go_simp; try rfl) (fun _ => hS) ?_; simp only [Act.put, Ja, Jb, Jc]; refine Kac (i := 4) (by kernel_rfl) rfl rfl ?_; refine Oper.wp_called (d := some 43) (w1 := wr.drew) (g := 153) (args := #[.pointer (some ⟨q + 1, 0, none⟩), .pointer (some ⟨q, 0, none⟩), .pointer (some ⟨q + 2, 0, none⟩)]) rfl (by go_simp; try rfl) (N := fun u w' => u = .int .u64 (v3 : Int) ∧ NumAt (q + 1) q (q + 2) s s3 w' ∧ Kept wr.heap.size [q + 1, q + 2] wr w') (HNC.out.mono ?_) ?_
        ·rintro _ w6 ⟨rfl, hn6, hk6⟩; exact ⟨_, rfl, rfl, hn6, hk6.of_drew⟩
        ·rintro _ w6 ⟨rfl, hn6, hk6⟩; have hq6 := HX2.out.kept hk6 HX2.out.lt (by simp; omega); have x0 : w6.cell? ⟨qw, 2, none⟩ = some (.int .u64 (a.sum : Int)) := hq6.cell 2; have z0 := hq6.frozen 2; have HX9 := Jh (hq6.set_ 2 (.int .u64 (y : Int))); have HN9 : Hid (NumAt (q + 1) q (q + 2) s s3 (w6.setCell ⟨qw, 2, none⟩ (.int .u64 (y : Int)))) := Jh ⟨hn6.e.far (p := ⟨qw, 2, none⟩) (by simp; omega) _, hn6.b.far (p := ⟨qw, 2, none⟩) (by simp; omega) _, hn6.a.far (p := ⟨qw, 2, none⟩) (by simp; omega) _⟩; have HH9 := Jh ((HH2.out.kept hk6 HH2.out.lt (by simp)).far (p := ⟨qw, 2, none⟩) (by simp; omega) (.int .u64 (y : Int))); have HO9 := Jh (Kbb (Kex HO2.out hk6 (by simp)) (p := ⟨qw, 2, none⟩) (HOWQ.out) (.int .u64 (y : Int))); have HR9 := Jh ((HR2.out.trans ((hk6.mono (B' := q) (by have := HH2.out.lt; omega) (fun _ _ h => h)).below (by simp))).setCell (p := ⟨qw, 2, none⟩) (by simp; omega) (.int .u64 (y : Int))); clear hq6 hn6 hk6; refine ⟨fun _ => ⟨x0, trivial⟩, ?_⟩; simp only [Act.put, Ja, Jb, Jc]; refine Kac (i := 5) (by kernel_rfl) rfl rfl ?_; refine Oper.wp_ran (d := some 44) (w' := w6) (v := .int .u64 (y : Int)) rfl (by go_simp; try rfl) ⟨fun _ => ⟨x0, trivial⟩, ?_⟩; simp only [Act.put, Ja, Jb, Jc]; refine Kav (i := 6) (by kernel_rfl) rfl rfl (by kernel_rfl) ?_; refine Oper.wp_ran (d := some 45) (w' := w6) (v := .pointer (some ⟨qw, 2, none⟩)) rfl (by go_simp; try rfl) ?_; simp only [Act.put, Ja, Jb, Jc]; refine Kav (i := 7) (by kernel_rfl) rfl rfl (by kernel_rfl) ?_; refine Oper.wp_skipped (w' := w6.setCell ⟨qw, 2, none⟩ (.int .u64 (y : Int))) rfl (by go_simp; try rfl) ?_; simp only [Act.put, Ja, Jb, Jc]; refine Kao (by kernel_rfl) ?_ _; clear x0 z0 hS hxo; go_wp2_with fail
         go_roundg 3
         case measure => omega
         case rel =>
          refine ⟨1, rfl, rfl, by omega, ?_, HR9.out, HH9.out, HO9.out, ?_⟩
          ·exact HN9.out
          ·have hyy := HY.out; subst hyy; exact HX9.out
       ·obtain rfl : gk = 3 := by omega
        have x0 : wr.cell? ⟨qw, 3, none⟩ = some (.int .u64 (a.min : Int)) := HX2.out.cell 3; have hS : wr.drew.cell? ⟨qw, 3, none⟩ = some (.int .u64 (a.min : Int)) ∧ True := ⟨x0, trivial⟩; have HNC := Jh (Kcx (q + 1) q (q + 2) s s3 wr.drew ⟨HN2.out.e, HN2.out.b, HN2.out.a⟩ hs); unfold Kfh at HNC; rw [HT4.out] at HNC; dsimp only at HNC; have hxo : bits .xor .u64 (a.min : Int) (v4 : Int) = ((a.min ^^^ v4 : Nat) : Int) := bits_xor_u64_nat _ _ (by have := HAB.out.2.1; omega) (by have := HV4.out; omega); obtain ⟨y, hy⟩ : ∃ y, a.min ^^^ v4 = y := ⟨_, rfl⟩; rw [hy] at hxo; have HY := Jh hy; clear hy; go_upto_region 14 with fail
        refine Kas (fun w' => w'.cell? ⟨qw, 3, none⟩ = some (.int .u64 (a.min : Int)) ∧ True) 6 8 (by kernel_rfl) rfl ?_; rw [show Array.replicate 8 false = #[false, false, false, false, false, false, false, false] from rfl]; refine Kaa (i := 0) (d := some 39) rfl rfl (by kernel_rfl) (by kernel_rfl) (by kernel_rfl) rfl (fun _ _ _ h => h) (by rfl) (fun w => by go_simp; try rfl) (fun _ => hS) ?_; simp only [Act.put, Ja, Jb, Jc]; refine Kaa (i := 1) (d := some 40) rfl rfl (by kernel_rfl) (by kernel_rfl) (by kernel_rfl) rfl (fun _ _ _ h => h) (by rfl) (fun w => by go_simp; try rfl) (fun _ => hS) ?_; simp only [Act.put, Ja, Jb, Jc]; refine Kaf (i := 2) (d := some 41) rfl rfl (by kernel_rfl) (by kernel_rfl) (by kernel_rfl) (by kernel_rfl) rfl (fun _ _ _ h => h) (.inl ⟨by rfl, fun w hw => by (obtain ⟨ha, hb⟩ := hw; go_simp; try rfl)⟩) hS ?_; simp only [Act.put, Ja, Jb, Jc]; refine Kaa (i := 3) (d := some 42) rfl rfl (by kernel_rfl) (by kernel_rfl) (by kernel_rfl) rfl (fun _ _ _ h => h) (by rfl) (fun w => by go_simp; try rfl) (fun _ => hS) ?_; simp only [Act.put, Ja, Jb, Jc]; refine Kac (i := 4) (by kernel_rfl) rfl rfl ?_; refine Oper.wp_called (d := some 43) (w1 := wr.drew) (g := 153) (args := #[.pointer (some ⟨q + 1, 0, none⟩), .pointer (some ⟨q, 0, none⟩), .pointer (some ⟨q + 2, 0, none⟩)]) rfl (by go_simp; try rfl) (N := fun u w' => u = .int .u64 (v4 : Int) ∧ NumAt (q + 1) q (q + 2) s s4 w' ∧ Kept wr.heap.size [q + 1, q + 2] wr w') (HNC.out.mono ?_) ?_
        ·rintro _ w6 ⟨rfl, hn6, hk6⟩; exact ⟨_, rfl, rfl, hn6, hk6.of_drew⟩
        ·rintro _ w6 ⟨rfl, hn6, hk6⟩; have hq6 := HX2.out.kept hk6 HX2.out.lt (by simp; omega); have x0 : w6.cell? ⟨qw, 3, none⟩ = some (.int .u64 (a.min : Int)) := hq6.cell 3; have z0 := hq6.frozen 3; have HX9 := Jh (hq6.set_ 3 (.int .u64 (y : Int))); have HN9 : Hid (NumAt (q + 1) q (q + 2) s s4 (w6.setCell ⟨qw, 3, none⟩ (.int .u64 (y : Int)))) := Jh ⟨hn6.e.far (p := ⟨qw, 3, none⟩) (by simp; omega) _, hn6.b.far (p := ⟨qw, 3, none⟩) (by simp; omega) _, hn6.a.far (p := ⟨qw, 3, none⟩) (by simp; omega) _⟩; have HH9 := Jh ((HH2.out.kept hk6 HH2.out.lt (by simp)).far (p := ⟨qw, 3, none⟩) (by simp; omega) (.int .u64 (y : Int))); have HO9 := Jh (Kbb (Kex HO2.out hk6 (by simp)) (p := ⟨qw, 3, none⟩) (HOWQ.out) (.int .u64 (y : Int))); have HR9 := Jh ((HR2.out.trans ((hk6.mono (B' := q) (by have := HH2.out.lt; omega) (fun _ _ h => h)).below (by simp))).setCell (p := ⟨qw, 3, none⟩) (by simp; omega) (.int .u64 (y : Int))); clear hq6 hn6 hk6; refine ⟨fun _ => ⟨x0, trivial⟩, ?_⟩; simp only [Act.put, Ja, Jb, Jc]; refine Kac (i := 5) (by kernel_rfl) rfl rfl ?_; refine Oper.wp_ran (d := some 44) (w' := w6) (v := .int .u64 (y : Int)) rfl (by go_simp; try rfl) ⟨fun _ => ⟨x0, trivial⟩, ?_⟩; simp only [Act.put, Ja, Jb, Jc]; refine Kav (i := 6) (by kernel_rfl) rfl rfl (by kernel_rfl) ?_; refine Oper.wp_ran (d := some 45) (w' := w6) (v := .pointer (some ⟨qw, 3, none⟩)) rfl (by go_simp; try rfl) ?_; simp only [Act.put, Ja, Jb, Jc]; refine Kav (i := 7) (by kernel_rfl) rfl rfl (by kernel_rfl) ?_; refine Oper.wp_skipped (w' := w6.setCell ⟨qw, 3, none⟩ (.int .u64 (y : Int))) rfl (by go_simp; try rfl) ?_; simp only [Act.put, Ja, Jb, Jc]; refine Kao (by kernel_rfl) ?_ _; clear x0 z0 hS hxo; go_wp2_with fail
         go_roundg 2
         case measure => omega
         case rel =>
          refine ⟨2, rfl, rfl, by omega, ?_, HR9.out, HH9.out, HO9.out, ?_⟩
          ·exact HN9.out
          ·have hyy := HY.out; subst hyy; exact HX9.out
       ·obtain rfl : gk = 2 := by omega
        have x0 : wr.cell? ⟨qw, 4, none⟩ = some (.int .u64 (a.max : Int)) := HX2.out.cell 4; have hS : wr.drew.cell? ⟨qw, 4, none⟩ = some (.int .u64 (a.max : Int)) ∧ True := ⟨x0, trivial⟩; have HNC := Jh (Kcx (q + 1) q (q + 2) s s4 wr.drew ⟨HN2.out.e, HN2.out.b, HN2.out.a⟩ hs); unfold Kfh at HNC; rw [HT5.out] at HNC; dsimp only at HNC; have hxo : bits .xor .u64 (a.max : Int) (v5 : Int) = ((a.max ^^^ v5 : Nat) : Int) := bits_xor_u64_nat _ _ (by have := HAB.out.2.2.1; omega) (by have := HV5.out; omega); obtain ⟨y, hy⟩ : ∃ y, a.max ^^^ v5 = y := ⟨_, rfl⟩; rw [hy] at hxo; have HY := Jh hy; clear hy; go_upto_region 14 with fail
        refine Kas (fun w' => w'.cell? ⟨qw, 4, none⟩ = some (.int .u64 (a.max : Int)) ∧ True) 6 8 (by kernel_rfl) rfl ?_; rw [show Array.replicate 8 false = #[false, false, false, false, false, false, false, false] from rfl]; refine Kaa (i := 0) (d := some 39) rfl rfl (by kernel_rfl) (by kernel_rfl) (by kernel_rfl) rfl (fun _ _ _ h => h) (by rfl) (fun w => by go_simp; try rfl) (fun _ => hS) ?_; simp only [Act.put, Ja, Jb, Jc]; refine Kaa (i := 1) (d := some 40) rfl rfl (by kernel_rfl) (by kernel_rfl) (by kernel_rfl) rfl (fun _ _ _ h => h) (by rfl) (fun w => by go_simp; try rfl) (fun _ => hS) ?_; simp only [Act.put, Ja, Jb, Jc]; refine Kaf (i := 2) (d := some 41) rfl rfl (by kernel_rfl) (by kernel_rfl) (by kernel_rfl) (by kernel_rfl) rfl (fun _ _ _ h => h) (.inl ⟨by rfl, fun w hw => by (obtain ⟨ha, hb⟩ := hw; go_simp; try rfl)⟩) hS ?_; simp only [Act.put, Ja, Jb, Jc]; refine Kaa (i := 3) (d := some 42) rfl rfl (by kernel_rfl) (by kernel_rfl) (by kernel_rfl) rfl (fun _ _ _ h => h) (by rfl) (fun w => by go_simp; try rfl) (fun _ => hS) ?_; simp only [Act.put, Ja, Jb, Jc]; refine Kac (i := 4) (by kernel_rfl) rfl rfl ?_; refine Oper.wp_called (d := some 43) (w1 := wr.drew) (g := 153) (args := #[.pointer (some ⟨q + 1, 0, none⟩), .pointer (some ⟨q, 0, none⟩), .pointer (some ⟨q + 2, 0, none⟩)]) rfl (by go_simp; try rfl) (N := fun u w' => u = .int .u64 (v5 : Int) ∧ NumAt (q + 1) q (q + 2) s s5 w' ∧ Kept wr.heap.size [q + 1, q + 2] wr w') (HNC.out.mono ?_) ?_
        ·rintro _ w6 ⟨rfl, hn6, hk6⟩; exact ⟨_, rfl, rfl, hn6, hk6.of_drew⟩
        ·rintro _ w6 ⟨rfl, hn6, hk6⟩; have hq6 := HX2.out.kept hk6 HX2.out.lt (by simp; omega); have x0 : w6.cell? ⟨qw, 4, none⟩ = some (.int .u64 (a.max : Int)) := hq6.cell 4; have z0 := hq6.frozen 4; have HX9 := Jh (hq6.set_ 4 (.int .u64 (y : Int))); have HN9 : Hid (NumAt (q + 1) q (q + 2) s s5 (w6.setCell ⟨qw, 4, none⟩ (.int .u64 (y : Int)))) := Jh ⟨hn6.e.far (p := ⟨qw, 4, none⟩) (by simp; omega) _, hn6.b.far (p := ⟨qw, 4, none⟩) (by simp; omega) _, hn6.a.far (p := ⟨qw, 4, none⟩) (by simp; omega) _⟩; have HH9 := Jh ((HH2.out.kept hk6 HH2.out.lt (by simp)).far (p := ⟨qw, 4, none⟩) (by simp; omega) (.int .u64 (y : Int))); have HO9 := Jh (Kbb (Kex HO2.out hk6 (by simp)) (p := ⟨qw, 4, none⟩) (HOWQ.out) (.int .u64 (y : Int))); have HR9 := Jh ((HR2.out.trans ((hk6.mono (B' := q) (by have := HH2.out.lt; omega) (fun _ _ h => h)).below (by simp))).setCell (p := ⟨qw, 4, none⟩) (by simp; omega) (.int .u64 (y : Int))); clear hq6 hn6 hk6; refine ⟨fun _ => ⟨x0, trivial⟩, ?_⟩; simp only [Act.put, Ja, Jb, Jc]; refine Kac (i := 5) (by kernel_rfl) rfl rfl ?_; refine Oper.wp_ran (d := some 44) (w' := w6) (v := .int .u64 (y : Int)) rfl (by go_simp; try rfl) ⟨fun _ => ⟨x0, trivial⟩, ?_⟩; simp only [Act.put, Ja, Jb, Jc]; refine Kav (i := 6) (by kernel_rfl) rfl rfl (by kernel_rfl) ?_; refine Oper.wp_ran (d := some 45) (w' := w6) (v := .pointer (some ⟨qw, 4, none⟩)) rfl (by go_simp; try rfl) ?_; simp only [Act.put, Ja, Jb, Jc]; refine Kav (i := 7) (by kernel_rfl) rfl rfl (by kernel_rfl) ?_; refine Oper.wp_skipped (w' := w6.setCell ⟨qw, 4, none⟩ (.int .u64 (y : Int))) rfl (by go_simp; try rfl) ?_; simp only [Act.put, Ja, Jb, Jc]; refine Kao (by kernel_rfl) ?_ _; clear x0 z0 hS hxo; go_wp2_with fail
         go_roundg 1
         case measure => omega
         case rel =>
          refine ⟨3, rfl, rfl, by omega, ?_, HR9.out, HH9.out, HO9.out, ?_⟩
          ·exact HN9.out
          ·have hyy := HY.out; subst hyy; exact HX9.out
       ·obtain rfl : gk = 1 := by omega
        have x0 : wr.cell? ⟨qw, 5, none⟩ = some (.int .u64 (a.last : Int)) := HX2.out.cell 5; have hS : wr.drew.cell? ⟨qw, 5, none⟩ = some (.int .u64 (a.last : Int)) ∧ True := ⟨x0, trivial⟩; have HNC := Jh (Kcx (q + 1) q (q + 2) s s5 wr.drew ⟨HN2.out.e, HN2.out.b, HN2.out.a⟩ hs); unfold Kfh at HNC; rw [HT6.out] at HNC; dsimp only at HNC; have hxo : bits .xor .u64 (a.last : Int) (v6 : Int) = ((a.last ^^^ v6 : Nat) : Int) := bits_xor_u64_nat _ _ (by have := HAB.out.2.2.2; omega) (by have := HV6.out; omega); obtain ⟨y, hy⟩ : ∃ y, a.last ^^^ v6 = y := ⟨_, rfl⟩; rw [hy] at hxo; have HY := Jh hy; clear hy; go_upto_region 14 with fail
        refine Kas (fun w' => w'.cell? ⟨qw, 5, none⟩ = some (.int .u64 (a.last : Int)) ∧ True) 6 8 (by kernel_rfl) rfl ?_; rw [show Array.replicate 8 false = #[false, false, false, false, false, false, false, false] from rfl]; refine Kaa (i := 0) (d := some 39) rfl rfl (by kernel_rfl) (by kernel_rfl) (by kernel_rfl) rfl (fun _ _ _ h => h) (by rfl) (fun w => by go_simp; try rfl) (fun _ => hS) ?_; simp only [Act.put, Ja, Jb, Jc]; refine Kaa (i := 1) (d := some 40) rfl rfl (by kernel_rfl) (by kernel_rfl) (by kernel_rfl) rfl (fun _ _ _ h => h) (by rfl) (fun w => by go_simp; try rfl) (fun _ => hS) ?_; simp only [Act.put, Ja, Jb, Jc]; refine Kaf (i := 2) (d := some 41) rfl rfl (by kernel_rfl) (by kernel_rfl) (by kernel_rfl) (by kernel_rfl) rfl (fun _ _ _ h => h) (.inl ⟨by rfl, fun w hw => by (obtain ⟨ha, hb⟩ := hw; go_simp; try rfl)⟩) hS ?_; simp only [Act.put, Ja, Jb, Jc]; refine Kaa (i := 3) (d := some 42) rfl rfl (by kernel_rfl) (by kernel_rfl) (by kernel_rfl) rfl (fun _ _ _ h => h) (by rfl) (fun w => by go_simp; try rfl) (fun _ => hS) ?_; simp only [Act.put, Ja, Jb, Jc]; refine Kac (i := 4) (by kernel_rfl) rfl rfl ?_; refine Oper.wp_called (d := some 43) (w1 := wr.drew) (g := 153) (args := #[.pointer (some ⟨q + 1, 0, none⟩), .pointer (some ⟨q, 0, none⟩), .pointer (some ⟨q + 2, 0, none⟩)]) rfl (by go_simp; try rfl) (N := fun u w' => u = .int .u64 (v6 : Int) ∧ NumAt (q + 1) q (q + 2) s s6 w' ∧ Kept wr.heap.size [q + 1, q + 2] wr w') (HNC.out.mono ?_) ?_
        ·rintro _ w6 ⟨rfl, hn6, hk6⟩; exact ⟨_, rfl, rfl, hn6, hk6.of_drew⟩
        ·rintro _ w6 ⟨rfl, hn6, hk6⟩; have hq6 := HX2.out.kept hk6 HX2.out.lt (by simp; omega); have x0 : w6.cell? ⟨qw, 5, none⟩ = some (.int .u64 (a.last : Int)) := hq6.cell 5; have z0 := hq6.frozen 5; have HX9 := Jh (hq6.set_ 5 (.int .u64 (y : Int))); have HN9 : Hid (NumAt (q + 1) q (q + 2) s s6 (w6.setCell ⟨qw, 5, none⟩ (.int .u64 (y : Int)))) := Jh ⟨hn6.e.far (p := ⟨qw, 5, none⟩) (by simp; omega) _, hn6.b.far (p := ⟨qw, 5, none⟩) (by simp; omega) _, hn6.a.far (p := ⟨qw, 5, none⟩) (by simp; omega) _⟩; have HH9 := Jh ((HH2.out.kept hk6 HH2.out.lt (by simp)).far (p := ⟨qw, 5, none⟩) (by simp; omega) (.int .u64 (y : Int))); have HO9 := Jh (Kbb (Kex HO2.out hk6 (by simp)) (p := ⟨qw, 5, none⟩) (HOWQ.out) (.int .u64 (y : Int))); have HR9 := Jh ((HR2.out.trans ((hk6.mono (B' := q) (by have := HH2.out.lt; omega) (fun _ _ h => h)).below (by simp))).setCell (p := ⟨qw, 5, none⟩) (by simp; omega) (.int .u64 (y : Int))); clear hq6 hn6 hk6; refine ⟨fun _ => ⟨x0, trivial⟩, ?_⟩; simp only [Act.put, Ja, Jb, Jc]; refine Kac (i := 5) (by kernel_rfl) rfl rfl ?_; refine Oper.wp_ran (d := some 44) (w' := w6) (v := .int .u64 (y : Int)) rfl (by go_simp; try rfl) ⟨fun _ => ⟨x0, trivial⟩, ?_⟩; simp only [Act.put, Ja, Jb, Jc]; refine Kav (i := 6) (by kernel_rfl) rfl rfl (by kernel_rfl) ?_; refine Oper.wp_ran (d := some 45) (w' := w6) (v := .pointer (some ⟨qw, 5, none⟩)) rfl (by go_simp; try rfl) ?_; simp only [Act.put, Ja, Jb, Jc]; refine Kav (i := 7) (by kernel_rfl) rfl rfl (by kernel_rfl) ?_; refine Oper.wp_skipped (w' := w6.setCell ⟨qw, 5, none⟩ (.int .u64 (y : Int))) rfl (by go_simp; try rfl) ?_; simp only [Act.put, Ja, Jb, Jc]; refine Kao (by kernel_rfl) ?_ _; clear x0 z0 hS hxo; go_wp2_with fail
         go_roundg 0
         case measure => omega
         case rel =>
          refine ⟨4, rfl, rfl, by omega, ?_, HR9.out, HH9.out, HO9.out, ?_⟩
          ·exact HN9.out
          ·have hyy := HY.out; subst hyy; exact HX9.out
       ·obtain rfl : gk = 0 := by omega
        go_wp2_with fail
        go_meet
        exact ⟨HR2.out, HH2.out, HO2.out, HN2.out, HX2.out⟩
     case rest =>
      obtain ⟨hr8, hh8, ho8, hn8, hx8⟩ := hcut; have HR8 := Jh hr8; have HH8 := Jh hh8; have HO8 := Jh ho8; have HN8 := Jh hn8; have HX8 := Jh hx8; clear hr8 hh8 ho8 hn8 hx8; obtain ⟨j6, e6⟩ := s6; have c1 : wc.cell? ⟨q + 1, 0, none⟩ = some (.int .i64 (e6 : Int)) := HN8.out.e.cell 0; have z1 := HN8.out.e.frozen 0; rcases HSIX.out with ⟨hbad, hw6⟩ | ⟨hok, hj6_, hw6⟩
      ·have hbad' : e6 ≠ 0 := hbad; have hne : ((e6 : Int) != 0) = true := by simp; omega
       have hnone : aggR s.data.toList = none := by
        unfold aggR; rw [HRU0.out]; dsimp only; rw [HWS.out, wndsR, hw6]
       have HNONE := Jh hnone; have HBAD := Jh hbad'; clear hnone hw6 hbad; clear ipt0 ipt1 ipt2 ipt3 hqq hq4 hat hin el; have sl := HN8.out.e.lt; go_upto_region 17 with fail
       refine Kag 2 (by kernel_rfl) (by kernel_rfl) ?_; simp only [List.take_succ_cons, List.take_zero, List.drop_succ_cons, List.drop_zero]
       repeat (go_big_quiet_step (fail))
       refine wpQuiet_nil ?_; rintro w9 ⟨⟨_, hb9⟩, rfl⟩; have he9 := HN8.out.e.below hb9 sl; have HR9b := Jh (HR8.out.trans (hb9.mono (by omega))); have HE9 := Jh he9; clear c1 z1 hb9 sl hbad' hne; have c1 : w9.cell? ⟨q + 1, 0, none⟩ = some (.int .i64 (e6 : Int)) := he9.cell 0; have z1 := he9.frozen 0; clear he9; go_wp2_with fail
       have e1 : (w9.setCell ⟨q + 1, 0, none⟩ (.int .i64 (e6 : Int))).cell? ⟨q + 1, 0, none⟩ = some (.int .i64 (e6 : Int)) := (HE9.out.set_ 0 (.int .i64 (e6 : Int))).cell 0; refine bodyPost_ret (v := .tuple #[.slice none 0 0, .int .i64 (e6 : Int)]) (by simp [results, Tryz.results86, go_sem, e1]) rfl ?_; rw [HNONE.out]; exact ⟨e6, HBAD.out, rfl, by rw [HQ.out]; exact HR9b.out.setCell (p := ⟨q + 1, 0, none⟩) (by simp) _⟩
      ·have hok' : e6 = 0 := hok; subst hok'; have HJ6 : Hid (at_ < j6 ∧ j6 ≤ s.data.toList.length) := Jh hj6_; clear hj6_; have HW6 := Jh (hw6 a (decide (i = 0))); clear hw6 hok
       by_cases hstep : v1 ≤ 1125899906842624
       ·have hsf : decide (1125899906842624 < v1) = false := by rw [decide_eq_false_iff_not]; omega
        have hsf2 : decide ((1125899906842624 : Int) < (v1 : Int)) = false := by rw [decide_eq_false_iff_not]; omega
        have h1 := HST.out.1; have h2 := HST.out.2; have hv2 := HV2.out; obtain ⟨hstw, hv1x, hv1w⟩ := Qec a.start v1 h1 h2 hstep; obtain ⟨ct, hct2, hctw, hctI, hct⟩ := Qgp v2; have hct := hct.out; have HCTI := Jh hctI; clear hctI; obtain ⟨x, hx⟩ : ∃ x : Wnd, { start := a.start + v1, count := (ct : Int), sum := a.sum ^^^ v3, min := a.min ^^^ v4, max := a.max ^^^ v5, last := a.last ^^^ v6 } = x := ⟨_, rfl⟩; have hxs : x.start = a.start + (v1 : Int) := by rw [← hx]
        have HXD := Jh hx; have hw6 := HW6.out; rw [hct] at hw6; clear hct; have hw7 : wndR a (decide (i = 0)) s.data.toList at_ = if v1 ≤ 1125899906842624 ∧ Kdm x a (decide (i = 0)) = 0 then some (x, j6) else none := by rw [hw6, ← hx]
        have HW7 := Jh hw7
        have hbx : Kay x := by
         rw [← hx]; have hb := HAB.out; exact ⟨Nat.xor_lt_two_pow hb.1 HV3.out, Nat.xor_lt_two_pow hb.2.1 HV4.out, Nat.xor_lt_two_pow hb.2.2.1 HV5.out, Nat.xor_lt_two_pow hb.2.2.2 HV6.out⟩
        have HBX := Jh hbx; have d0 : wc.cell? ⟨qw, 0, none⟩ = some (.int .i64 a.start) := HX8.out.cell 0; have d1 : wc.cell? ⟨qw, 1, none⟩ = some (.int .i64 a.count) := HX8.out.cell 1; have y0 := HX8.out.frozen 0; have y1 := HX8.out.frozen 1; have hx9 := (HX8.out.set_ 0 (.int .i64 (a.start + (v1 : Int)))).set_ 1 (.int .i64 (ct : Int)); have hqwe : qw ≠ q + 1 := by omega
        have hn9 : NumAt (q + 1) q (q + 2) s (j6, 0) ((wc.setCell ⟨qw, 0, none⟩ (.int .i64 (a.start + (v1 : Int)))).setCell ⟨qw, 1, none⟩ (.int .i64 (ct : Int))) :=
         ⟨(HN8.out.e.far (p := ⟨qw, 0, none⟩) (by simp; omega) _).far (p := ⟨qw, 1, none⟩) (by simp; omega) _, (HN8.out.b.far (p := ⟨qw, 0, none⟩) (by simp; omega) _).far (p := ⟨qw, 1, none⟩) (by simp; omega) _, (HN8.out.a.far (p := ⟨qw, 0, none⟩) (by simp; omega) _).far (p := ⟨qw, 1, none⟩) (by simp; omega) _⟩
        have hh9 := (HH8.out.far (p := ⟨qw, 0, none⟩) (by simp; omega) (.int .i64 (a.start + (v1 : Int)))).far (p := ⟨qw, 1, none⟩) (by simp; omega) (.int .i64 (ct : Int)); have ho9 := Kbb (Kbb HO8.out (p := ⟨qw, 0, none⟩) HOWQ.out (.int .i64 (a.start + (v1 : Int)))) (p := ⟨qw, 1, none⟩) HOWQ.out (.int .i64 (ct : Int)); have hr9 := (HR8.out.setCell (p := ⟨qw, 0, none⟩) (by simp; omega) (.int .i64 (a.start + (v1 : Int)))).setCell (p := ⟨qw, 1, none⟩) (by simp; omega) (.int .i64 (ct : Int))
        have HX9 : Hid (Blk ((wc.setCell ⟨qw, 0, none⟩ (.int .i64 (a.start + (v1 : Int)))).setCell ⟨qw, 1, none⟩ (.int .i64 (ct : Int))) qw 135 #[.int .i64 x.start, .int .i64 x.count, .int .u64 (x.sum : Int), .int .u64 (x.min : Int), .int .u64 (x.max : Int), .int .u64 (x.last : Int)]) := Jh (by
         rw [← hx]
         exact hx9)
        have HN9 := Jh hn9; have HH9 := Jh hh9; have HO9 := Jh ho9; have HR9 := Jh hr9; clear hx9 hn9 hh9 ho9 hr9 hw6 hw7 hbx hx; have hctI := HCTI.out; go_upto_region 22 with fail
        clear hctI; obtain ⟨w9, hw9⟩ : ∃ w9, (wc.setCell ⟨qw, 0, none⟩ (.int .i64 (a.start + (v1 : Int)))).setCell ⟨qw, 1, none⟩ (.int .i64 (ct : Int)) = w9 := ⟨_, rfl⟩; rw [hw9] at HX9 HN9 HH9 HO9 HR9; rw [hw9]; clear hw9 d0 d1 y0 y1 c1 z1 hctw hv1w hstw hv1x hct2 hv2 hsf hsf2 hxs hqwe ipt0 ipt1 ipt2 ipt3 h1 h2; have hB9 : q ≤ w9.heap.size := by have := HH9.out.lt; omega
        have x0 : w9.cell? ⟨qw, 0, none⟩ = some (.int .i64 x.start) := HX9.out.cell 0; have x1 : w9.cell? ⟨qw, 1, none⟩ = some (.int .i64 x.count) := HX9.out.cell 1; have x2 : w9.cell? ⟨qw, 2, none⟩ = some (.int .u64 (x.sum : Int)) := HX9.out.cell 2; have x3 : w9.cell? ⟨qw, 3, none⟩ = some (.int .u64 (x.min : Int)) := HX9.out.cell 3; have x4 : w9.cell? ⟨qw, 4, none⟩ = some (.int .u64 (x.max : Int)) := HX9.out.cell 4; have x5 : w9.cell? ⟨qw, 5, none⟩ = some (.int .u64 (x.last : Int)) := HX9.out.cell 5; have a0 : w9.cell? ⟨q + 3, 0, none⟩ = some (.int .i64 a.start) := HH9.out.cell 0; have a1 : w9.cell? ⟨q + 3, 1, none⟩ = some (.int .i64 a.count) := HH9.out.cell 1; have a2 : w9.cell? ⟨q + 3, 2, none⟩ = some (.int .u64 (a.sum : Int)) := HH9.out.cell 2; have a3 : w9.cell? ⟨q + 3, 3, none⟩ = some (.int .u64 (a.min : Int)) := HH9.out.cell 3; have a4 : w9.cell? ⟨q + 3, 4, none⟩ = some (.int .u64 (a.max : Int)) := HH9.out.cell 4; have a5 : w9.cell? ⟨q + 3, 5, none⟩ = some (.int .u64 (a.last : Int)) := HH9.out.cell 5; obtain ⟨fst, hfst⟩ : ∃ fst, decide (i = 0) = fst := ⟨_, rfl⟩; have hf2 : ((i : Int) == 0) = fst := by rw [← hfst]; cases i <;> simp <;> omega
        rw [hfst] at HW7; have HFST := Jh hfst; obtain ⟨se, hse⟩ : ∃ se, Kcr x a fst = se := ⟨_, rfl⟩; have HFO := Jh (Kiw x a fst w9); unfold wndV at HFO; rw [hse] at HFO; have hz := Kga x a fst; rw [hse] at hz; have HZ := Jh hz; have hse9 : se ≤ 110 := by (rw [← hse]; unfold Kcr; repeat' split); all_goals omega
        clear hse hfst hz; go_wp2_with fail
        refine HFO.out.mono ?_; rintro _ w10 ⟨rfl, h10⟩; have HN10 : Hid (NumAt (q + 1) q (q + 2) s (j6, 0) w10) := Jh ⟨HN9.out.e.below h10 HN9.out.e.lt, HN9.out.b.below h10 HN9.out.b.lt, HN9.out.a.below h10 HN9.out.a.lt⟩; have HH10 := Jh (HH9.out.below h10 HH9.out.lt); have HO10 := Jh (Kda HO9.out h10); have HX10 := Jh (HX9.out.below h10 HX9.out.lt); have HR10 := Jh (HR9.out.trans (h10.mono hB9)); have hB10 : q + 4 ≤ w10.heap.size := by have := HH10.out.lt; omega
        clear h10 x0 x1 x2 x3 x4 x5 a0 a1 a2 a3 a4 a5 hB9 hf2; have c1 : w10.cell? ⟨q + 1, 0, none⟩ = some (.int .i64 0) := HN10.out.e.cell 0; have z1 := HN10.out.e.frozen 0
        by_cases hs0 : se = 0
        ·subst hs0
         have hw7 : wndR a fst s.data.toList at_ = some (x, j6) := by
          rw [HW7.out, if_pos ⟨hstep, HZ.out.1 rfl⟩]
         have HW8 := Jh hw7; have hfo := (Kfn x a fst).1 (HZ.out.1 rfl); have HOKX := Jh hfo.1; clear hw7 hfo c1 z1; have x0 : w10.cell? ⟨qw, 0, none⟩ = some (.int .i64 x.start) := HX10.out.cell 0; have x1 : w10.cell? ⟨qw, 1, none⟩ = some (.int .i64 x.count) := HX10.out.cell 1; have x2 : w10.cell? ⟨qw, 2, none⟩ = some (.int .u64 (x.sum : Int)) := HX10.out.cell 2; have x3 : w10.cell? ⟨qw, 3, none⟩ = some (.int .u64 (x.min : Int)) := HX10.out.cell 3; have x4 : w10.cell? ⟨qw, 4, none⟩ = some (.int .u64 (x.max : Int)) := HX10.out.cell 4; have x5 : w10.cell? ⟨qw, 5, none⟩ = some (.int .u64 (x.last : Int)) := HX10.out.cell 5; obtain ⟨ib, hib, hib0, hib1, hib2⟩ := info_parts Kun; go_wp2_with (at_builtin; refine wpList_append_own_at _ rfl _ _ 56 rfl (q + 4) 135 ib (.agg #[.int .i64 0, .int .i64 0, .int .u64 0, .int .u64 0, .int .u64 0, .int .u64 0]) 6 48 Tryz.underlying56 hib hib0 hib1 hib2 rfl (by decide) _ _ _ rfl (World.ownsRow.alloc HO10.out _) ⟨w10.heap.size, 0, none⟩ 1 1 (Kaw x) rfl rfl ?c1 ?c2 ?c3 ?c4 ?c5 ?_)
         case c1 => exact Kbk (l := Kaw x) (Blk.new w10 _ _)
         case c2 => intro u hu; simp [Kaw] at hu; rcases hu with rfl | rfl | rfl | rfl | rfl | rfl <;> rfl
         case c3 => have := HLL.out; have := hat; have h9 : s.data.toList.length = s.size := rfl; unfold maxLen; omega
         case c4 => have := HLL.out; have := hat; have h9 : s.data.toList.length = s.size := rfl; omega
         case c5 => simp; omega
         intro v' w11 hown' hgrow hx1 hat'; have hne : ∀ k, k < q + 4 → some k ≠ u2.ownBlock := fun k hk e => Kcn HO10.out hk e.symm
         have HN11 : Hid (NumAt (q + 1) q (q + 2) s (j6, 0) w11) := Jh ⟨(HN10.out.e.alloc _).grown hgrow (hne (q + 1) (by omega)), (HN10.out.b.alloc _).grown hgrow (hne q (by omega)), (HN10.out.a.alloc _).grown hgrow (hne (q + 2) (by omega))⟩; have HH11 := Jh ((HH10.out.alloc _).grown hgrow (hne (q + 3) (by omega))); have hqo : some qw ≠ u2.ownBlock := fun e => HOWQ.out e.symm
         have HX11 := Jh ((HX10.out.alloc _).grown hgrow hqo); have HR11 := Jh (HR10.out.trans (c := w11) ⟨hgrow.os, hgrow.tape, hgrow.output, by have := hgrow.size; simp at this; omega, fun k hk => (hgrow.block k (by simp; omega) (hne k (by omega))).trans (Below.heap_alloc _ _ _ (by omega))⟩); have hfl : (L ++ [x]).flatMap Kaw = L.flatMap Kaw ++ Kaw x := by rw [List.flatMap_append]; simp
         have HO11 : Hid (w11.ownsRow (q + 4) 135 6 v' (L ++ [x]).length ((L ++ [x]).flatMap Kaw)) := Jh (by rw [hfl, List.length_append]; exact hown'); clear hown' hgrow hx1 hat' hne hqo hfl x0 x1 x2 x3 x4 x5; have x0 : w11.cell? ⟨qw, 0, none⟩ = some (.int .i64 x.start) := HX11.out.cell 0; have x1 : w11.cell? ⟨qw, 1, none⟩ = some (.int .i64 x.count) := HX11.out.cell 1; have x2 : w11.cell? ⟨qw, 2, none⟩ = some (.int .u64 (x.sum : Int)) := HX11.out.cell 2; have x3 : w11.cell? ⟨qw, 3, none⟩ = some (.int .u64 (x.min : Int)) := HX11.out.cell 3; have x4 : w11.cell? ⟨qw, 4, none⟩ = some (.int .u64 (x.max : Int)) := HX11.out.cell 4; have x5 : w11.cell? ⟨qw, 5, none⟩ = some (.int .u64 (x.last : Int)) := HX11.out.cell 5; have a0 : w11.cell? ⟨q + 3, 0, none⟩ = some (.int .i64 a.start) := HH11.out.cell 0; have a1 : w11.cell? ⟨q + 3, 1, none⟩ = some (.int .i64 a.count) := HH11.out.cell 1; have a2 : w11.cell? ⟨q + 3, 2, none⟩ = some (.int .u64 (a.sum : Int)) := HH11.out.cell 2; have a3 : w11.cell? ⟨q + 3, 3, none⟩ = some (.int .u64 (a.min : Int)) := HH11.out.cell 3; have a4 : w11.cell? ⟨q + 3, 4, none⟩ = some (.int .u64 (a.max : Int)) := HH11.out.cell 4; have a5 : w11.cell? ⟨q + 3, 5, none⟩ = some (.int .u64 (a.last : Int)) := HH11.out.cell 5; have z0 := HH11.out.frozen 0; have z1 := HH11.out.frozen 1; have z2 := HH11.out.frozen 2; have z3 := HH11.out.frozen 3; have z4 := HH11.out.frozen 4; have z5 := HH11.out.frozen 5; go_wp2_with fail
         have t0 := HH11.out; have n0 := HN11.out; have o0 := HO11.out; have r0 := HR11.out; have n1 : NumAt (q + 1) q (q + 2) s (j6, 0) _ := ⟨n0.e.far (p := ⟨q + 3, 0, none⟩) (by simp) (.int .i64 x.start), n0.b.far (p := ⟨q + 3, 0, none⟩) (by simp) (.int .i64 x.start), n0.a.far (p := ⟨q + 3, 0, none⟩) (by simp) (.int .i64 x.start)⟩; have o1 := Kbb o0 (p := ⟨q + 3, 0, none⟩) (Kcn (k := q + 3) o0 (by omega)) (.int .i64 x.start); have r1 := r0.setCell (p := ⟨q + 3, 0, none⟩) (by simp) (.int .i64 x.start); have t1 := t0.set_ 0 (.int .i64 x.start); have n2 : NumAt (q + 1) q (q + 2) s (j6, 0) _ := ⟨n1.e.far (p := ⟨q + 3, 1, none⟩) (by simp) (.int .i64 x.count), n1.b.far (p := ⟨q + 3, 1, none⟩) (by simp) (.int .i64 x.count), n1.a.far (p := ⟨q + 3, 1, none⟩) (by simp) (.int .i64 x.count)⟩; have o2 := Kbb o1 (p := ⟨q + 3, 1, none⟩) (Kcn (k := q + 3) o1 (by omega)) (.int .i64 x.count); have r2 := r1.setCell (p := ⟨q + 3, 1, none⟩) (by simp) (.int .i64 x.count); have t2 := t1.set_ 1 (.int .i64 x.count); have n3 : NumAt (q + 1) q (q + 2) s (j6, 0) _ := ⟨n2.e.far (p := ⟨q + 3, 2, none⟩) (by simp) (.int .u64 (x.sum : Int)), n2.b.far (p := ⟨q + 3, 2, none⟩) (by simp) (.int .u64 (x.sum : Int)), n2.a.far (p := ⟨q + 3, 2, none⟩) (by simp) (.int .u64 (x.sum : Int))⟩; have o3 := Kbb o2 (p := ⟨q + 3, 2, none⟩) (Kcn (k := q + 3) o2 (by omega)) (.int .u64 (x.sum : Int)); have r3 := r2.setCell (p := ⟨q + 3, 2, none⟩) (by simp) (.int .u64 (x.sum : Int)); have t3 := t2.set_ 2 (.int .u64 (x.sum : Int)); have n4 : NumAt (q + 1) q (q + 2) s (j6, 0) _ := ⟨n3.e.far (p := ⟨q + 3, 3, none⟩) (by simp) (.int .u64 (x.min : Int)), n3.b.far (p := ⟨q + 3, 3, none⟩) (by simp) (.int .u64 (x.min : Int)), n3.a.far (p := ⟨q + 3, 3, none⟩) (by simp) (.int .u64 (x.min : Int))⟩; have o4 := Kbb o3 (p := ⟨q + 3, 3, none⟩) (Kcn (k := q + 3) o3 (by omega)) (.int .u64 (x.min : Int)); have r4 := r3.setCell (p := ⟨q + 3, 3, none⟩) (by simp) (.int .u64 (x.min : Int)); have t4 := t3.set_ 3 (.int .u64 (x.min : Int)); have n5 : NumAt (q + 1) q (q + 2) s (j6, 0) _ := ⟨n4.e.far (p := ⟨q + 3, 4, none⟩) (by simp) (.int .u64 (x.max : Int)), n4.b.far (p := ⟨q + 3, 4, none⟩) (by simp) (.int .u64 (x.max : Int)), n4.a.far (p := ⟨q + 3, 4, none⟩) (by simp) (.int .u64 (x.max : Int))⟩; have o5 := Kbb o4 (p := ⟨q + 3, 4, none⟩) (Kcn (k := q + 3) o4 (by omega)) (.int .u64 (x.max : Int)); have r5 := r4.setCell (p := ⟨q + 3, 4, none⟩) (by simp) (.int .u64 (x.max : Int)); have t5 := t4.set_ 4 (.int .u64 (x.max : Int)); have n6 : NumAt (q + 1) q (q + 2) s (j6, 0) _ := ⟨n5.e.far (p := ⟨q + 3, 5, none⟩) (by simp) (.int .u64 (x.last : Int)), n5.b.far (p := ⟨q + 3, 5, none⟩) (by simp) (.int .u64 (x.last : Int)), n5.a.far (p := ⟨q + 3, 5, none⟩) (by simp) (.int .u64 (x.last : Int))⟩; have o6 := Kbb o5 (p := ⟨q + 3, 5, none⟩) (Kcn (k := q + 3) o5 (by omega)) (.int .u64 (x.last : Int)); have r6 := r5.setCell (p := ⟨q + 3, 5, none⟩) (by simp) (.int .u64 (x.last : Int)); have t6 := t5.set_ 5 (.int .u64 (x.last : Int)); have T := Jh t6; have N := Jh n6; have O := Jh o6; have R := Jh r6; clear t0 t1 t2 t3 t4 t5 t6 n0 n1 n2 n3 n4 n5 n6 o0 o1 o2 o3 o4 o5 o6 r0 r1 r2 r3 r4 r5 r6; have hi1 := HI.out; go_roundg g
         case measure => omega
         case rel =>
          have hll2 : (L ++ [x]).length ≤ j6 := by rw [List.length_append]; have := HLL.out; have := HJ6.out.1; simp only [List.length_singleton]; omega
          refine ⟨i + 1, j6, x, L ++ [x], by omega, by rw [Qct _ _ hi1 HNB.out], HJ6.out.2, ⟨N.out, T.out, O.out, R.out⟩, ⟨HOKX.out.1, HOKX.out.2.1, HBX.out⟩, hll2, ?_⟩; rw [HWS.out, wndsR, HFST.out, HW8.out]; dsimp only; rw [show decide (i + 1 = 0) = false by simp]
          cases wndsR s.data.toList g x false j6 with
          | none => rfl
          | some y => obtain ⟨l, j⟩ := y; simp
        ·have e0 : ((se : Int) != 0) = true := by simp; omega
         have hnone : aggR s.data.toList = none := by
          unfold aggR; rw [HRU0.out]; dsimp only; rw [HWS.out, wndsR, HFST.out, HW7.out, if_neg (fun h => hs0 (HZ.out.2 h.2))]
         have HNONE := Jh hnone; have HS0 := Jh hs0; clear hnone; go_wp2_with fail
         have e1 : (w10.setCell ⟨q + 1, 0, none⟩ (.int .i64 (se : Int))).cell? ⟨q + 1, 0, none⟩ = some (.int .i64 (se : Int)) := (HN10.out.e.set_ 0 (.int .i64 (se : Int))).cell 0; refine bodyPost_ret (v := .tuple #[.slice none 0 0, .int .i64 (se : Int)]) (by simp [results, Tryz.results86, go_sem, e1]) rfl ?_; rw [HNONE.out]; exact ⟨se, HS0.out, rfl, by rw [HQ.out]; exact HR10.out.setCell (p := ⟨q + 1, 0, none⟩) (by simp) _⟩
       ·have hst : decide (1125899906842624 < v1) = true := by rw [decide_eq_true_eq]; omega
        have hst2 : 1125899906842624 < v1 := by omega
        have hnone : aggR s.data.toList = none := by
         unfold aggR; rw [HRU0.out]; dsimp only; rw [HWS.out, wndsR, HW6.out, if_neg (fun h => hstep h.1)]
        have HNONE := Jh hnone; clear hnone; go_wp2_with fail
        have e1 : (wc.setCell ⟨q + 1, 0, none⟩ (.int .i64 91)).cell? ⟨q + 1, 0, none⟩ = some (.int .i64 91) := (HN8.out.e.set_ 0 (.int .i64 91)).cell 0; refine bodyPost_ret (v := .tuple #[.slice none 0 0, .int .i64 91]) (by simp [results, Tryz.results86, go_sem, e1]) rfl ?_; rw [HNONE.out]; exact ⟨91, by decide, rfl, by rw [HQ.out]; exact HR8.out.setCell (p := ⟨q + 1, 0, none⟩) (by simp) _⟩
  case rest =>
   obtain ⟨at_, a, L, hws, hat, hl⟩ := hcut; have HL := Jh hl; have HWS := Jh hws; have c1 : wc.cell? ⟨q + 1, 0, none⟩ = some (.int .i64 0) := hl.n.e.cell 0; have z1 := hl.n.e.frozen 0; have c0 : wc.cell? ⟨q, 0, none⟩ = some (.string s) := hl.n.b.cell 0; have c2 : wc.cell? ⟨q + 2, 0, none⟩ = some (.int .i64 (at_ : Int)) := hl.n.a.cell 0; have hlen : s.data.toList.length = s.size := rfl
   have hag : aggR s.data.toList = if at_ = s.data.toList.length then some L else none := by
    unfold aggR; rw [HRU0.out]; dsimp only; rw [hws]
   have HAG := Jh hag; clear hl hws hag
   by_cases hend : at_ = s.size
   ·have hne : ((at_ : Int) != (s.size : Int)) = false := by simp; omega
    go_wp2_with fail
    have e1 : (wc.setCell ⟨q + 1, 0, none⟩ (.int .i64 0)).cell? ⟨q + 1, 0, none⟩ = some (.int .i64 0) := (HL.out.n.e.set_ 0 (.int .i64 0)).cell 0; refine bodyPost_ret (v := .tuple #[u2, .int .i64 0]) (by simp [results, Tryz.results86, go_sem, e1]) rfl ?_; rw [HAG.out, if_pos (by omega)]; refine ⟨_, rfl, ?_, by rw [HQ.out]; exact HL.out.r.setCell (p := ⟨q + 1, 0, none⟩) (by simp) _⟩; rw [HQ.out]; exact World.ownsRow.mono (Kbb HL.out.o (p := ⟨q + 1, 0, none⟩) (Kcn (k := q + 1) HL.out.o (by omega)) _) (by omega)
   ·have hne : ((at_ : Int) != (s.size : Int)) = true := by simp; omega
    go_wp2_with fail
    have e1 : (wc.setCell ⟨q + 1, 0, none⟩ (.int .i64 21)).cell? ⟨q + 1, 0, none⟩ = some (.int .i64 21) := (HL.out.n.e.set_ 0 (.int .i64 21)).cell 0; refine bodyPost_ret (v := .tuple #[.slice none 0 0, .int .i64 21]) (by simp [results, Tryz.results86, go_sem, e1]) rfl ?_; rw [HAG.out, if_neg (by omega)]; exact ⟨21, by decide, rfl, by rw [HQ.out]; exact HL.out.r.setCell (p := ⟨q + 1, 0, none⟩) (by simp) _⟩
 ·have h0' : ((e : Int) != 0) = true := by simp; omega
  go_upto_region 3 with fail
  go_region
  go_wp2_with fail
  have e1 : (w2.setCell ⟨q + 1, 0, none⟩ (.int .i64 (e : Int))).cell? ⟨q + 1, 0, none⟩ = some (.int .i64 (e : Int)) := (HN2.out.e.set_ 0 (.int .i64 (e : Int))).cell 0; refine bodyPost_ret (v := .tuple #[.slice none 0 0, .int .i64 (e : Int)]) (by simp [results, Tryz.results86, go_sem, e1]) rfl ?_; have hru : ruAt s.data.toList 0 = none := Qga HR.out h0; unfold aggR; rw [hru]; exact ⟨e, h0, rfl, by rw [HQ.out]; exact (HB2.out.setCell (p := ⟨q + 1, 0, none⟩) (by simp) _).drew⟩
end
section
open Go.RowKit
open Lib renaming hid → Jh
open List renaming length_append → Jd
attribute [local go_sem ↓] Go.wp_at_zero Go.wp_at_succ
attribute [local go_sem] Later.cell
structure PLoc where
 w0 : World
 q : Nat
 b5 : Nat
 pc : Nat
 pr : Nat
 F0 : ByteArray
 F1 : ByteArray
 F2 : ByteArray
 res : Nat
 frm : Int
 to_ : Int
 C : ByteArray
def spV (h : Hd3) : Value := .slice h.s.A h.s.n h.s.c
def wpV (h : Hd3) : Value := .slice h.w.A h.w.n h.w.c
def pOwn (L : PLoc) (v : Value) (hs : List Hd3) : Nat → Prop := fun k => k = L.q + 1 ∨ k = L.pc ∨ v.ownBlock = some k ∨ ∃ h ∈ hs, (spV h).ownBlock = some k ∨ (wpV h).ownBlock = some k
structure PSer (L : PLoc) (O : Nat → Prop) (j : Nat) (w : World) (h : Hd3) (s : Ser) : Prop where
 l : Elems w w.heap.size 2 encLb h.l.A h.l.n s.labels
 lc : h.l.n ≤ h.l.c
 l8 : h.l.n ≤ 8
 lo : 0 < h.l.n → ∀ a, h.l.A = some a → ¬ O a.block ∧ a.block ≠ L.pr
 sr : w.ownsRow L.q 102 2 (spV h) s.samples.length (s.samples.flatMap Kbf)
 wr : w.ownsRow L.q 135 6 (wpV h) s.windows.length (s.windows.flatMap Kaw)
 ns : s.samples.length ≤ 120 * j
 nw : s.windows.length ≤ j
structure Kes (L : PLoc) : Prop where
 n0 : L.q ≠ L.pr
 n1 : L.q + 1 ≠ L.pr
 n2 : L.q + 2 ≠ L.pr
 n3 : L.b5 ≠ L.pr
 n4 : L.pc ≠ L.pr
 qr : L.q ≤ L.pr
 qc : L.q ≤ L.pc
 cz : L.C.size ≤ 68719476736
 q3 : L.q + 3 ≤ L.b5
 qw : L.w0.heap.size = L.q
structure PX (L : PLoc) (st : List Ser × Nat) (O : Nat → Prop) (w : World) (hs : List Hd3) (v : Value) : Prop where
 f : Blk w L.q 44 #[.string L.F0, .string L.F1, .string L.F2]
 e : Blk w (L.q + 2) 29 #[.int .i64 0]
 b5 : Blk w L.b5 157 #[.pointer (some ⟨L.pc, 0, none⟩)]
 ck : Rdr L.pc L.C st.2 w
 jc : st.2 ≤ L.C.size
 bl : Below L.q L.w0 w
 np : ¬ O L.pr
 prl : L.pr < w.heap.size
 ex : O = pOwn L v hs ∧ Blk w (L.q + 1) 28 #[.int .i64 (L.res : Int), .int .i64 L.frm, .int .i64 L.to_, v] ∧ w.ownsRow L.q 58 3 v hs.length (hs.flatMap encH3) ∧ hs.length = st.1.length ∧
  (∀ (i : Nat) (h : Hd3), hs[i]? = some h → PSer L O st.2 w h st.1[i]!) ∧
  (∀ (i i' : Nat) (h h' : Hd3), hs[i]? = some h → hs[i']? = some h' → i ≠ i' → ((spV h).ownBlock = none ∨ (spV h).ownBlock ≠ (spV h').ownBlock) ∧ ((wpV h).ownBlock = none ∨ (wpV h).ownBlock ≠ (wpV h').ownBlock))
def PM (L : PLoc) (st : List Ser × Nat) (O : Nat → Prop) (w : World) : Prop := ∃ hs v, PX L st O w hs v
structure PN (L : PLoc) (w : World) : Prop where
 f : Blk w L.q 44 #[.string L.F0, .string L.F1, .string L.F2]
 e : Blk w (L.q + 2) 29 #[.int .i64 0]
 c : ∃ x y z v, Blk w (L.q + 1) 28 #[x, y, z, v]
 bl : Below L.q L.w0 w
theorem PM.bad {L : PLoc} {st : List Ser × Nat} {O : Nat → Prop} {w : World} (h : PM L st O w) : PN L w := by
 obtain ⟨hs, v, h⟩ := h; obtain ⟨_, hc, _⟩ := h.ex; exact ⟨h.f, h.e, ⟨_, _, _, _, hc⟩, h.bl⟩
theorem PM.lt {L : PLoc} {st : List Ser × Nat} {O : Nat → Prop} {w : World} (h : PM L st O w) {k : Nat} (hk : O k) : k < w.heap.size := by
 obtain ⟨hs, v, h⟩ := h; obtain ⟨rfl, hc, hv, hl, hp, _⟩ := h.ex; rcases hk with rfl | rfl | hk | ⟨x, hx, hk | hk⟩
 ·exact hc.lt
 ·exact h.ck.lt
 ·exact (hv.lt k hk).2
 ·obtain ⟨i, hi⟩ := List.mem_iff_getElem?.1 hx; exact ((hp i x hi).sr.lt k hk).2
 ·obtain ⟨i, hi⟩ := List.mem_iff_getElem?.1 hx; exact ((hp i x hi).wr.lt k hk).2
theorem Kfb {w w' : World} {B n sz pr : Nat} {T : TypeId} {v : Value} {xs : List Value} (h : w.ownsRow B T sz v n xs) (hk : Kept w.heap.size [pr] w w') (hn : v.ownBlock ≠ some pr) : w'.ownsRow B T sz v n xs :=
 h.kept (row := some pr) ⟨hk.os, hk.tape, hk.output, hk.size, fun k h1 h2 => hk.block k h1 (by simpa using fun e => h2 (by rw [e]))⟩ (.inr hn)
theorem PSer.blk {L : PLoc} {O : Nat → Prop} {j : Nat} {w : World} {h : Hd3} {s : Ser} (hs : PSer L O j w h s) (hn : 0 < h.l.n) {a : Addr} (ha : h.l.A = some a) : a.block < w.heap.size := by
 obtain ⟨b, off, e, hb2, _⟩ := hs.l.2 hn; rw [ha] at e; injection e with e; rw [e]; exact hb2
theorem PSer.labs {L : PLoc} {O : Nat → Prop} {j : Nat} {w w' : World} {h : Hd3} {s : Ser} (hs : PSer L O j w h s) (hz : w.heap.size ≤ w'.heap.size) (hk : ∀ k, k < w.heap.size → ¬ O k → k ≠ L.pr → w'.heap[k]? = w.heap[k]?) : Elems w' w'.heap.size 2 encLb h.l.A h.l.n s.labels := by
 rcases Nat.eq_zero_or_pos h.l.n with h0 | h0
 ·exact ⟨hs.l.1, fun hp => absurd h0 (by omega)⟩
 ·refine (hs.l.keepAt fun a ha hA => ?_).more hz
  cases hAA : h.l.A with
  | none => rw [hAA] at hA; cases hA
  | some x =>
   rw [hAA] at hA; have hb : x.block = a.block := by simpa using hA
   have := hs.lo h0 x hAA; rw [hb] at this; exact World.cell?_of_block (w := w) (hk a.block ha this.1 this.2)
theorem PSer.kept {L : PLoc} {O : Nat → Prop} {j : Nat} {w w' : World} {h : Hd3} {s : Ser} (hs : PSer L O j w h s) (hk : Kept w.heap.size [L.pr] w w') (h1 : (spV h).ownBlock ≠ some L.pr) (h2 : (wpV h).ownBlock ≠ some L.pr) : PSer L O j w' h s :=
 ⟨hs.labs hk.size fun k hlt _ hne => hk.block k hlt (by simpa using hne), hs.lc, hs.l8, hs.lo, Kfb hs.sr hk h1, Kfb hs.wr hk h2, hs.ns, hs.nw⟩
theorem PX.keep {L : PLoc} (ok : Kes L) {st : List Ser × Nat} {O : Nat → Prop} {w w' : World} {hs : List Hd3} {v : Value} (h : PX L st O w hs v) (hk : Kept w.heap.size [L.pr] w w') : PX L st O w' hs v := by
 obtain ⟨rfl, hc, hv, hl, hp, hd⟩ := h.ex; have hno : ∀ k, pOwn L v hs k → k ≠ L.pr := fun k hk e => h.np (e ▸ hk)
 have hvn : v.ownBlock ≠ some L.pr := fun e => hno L.pr (.inr (.inr (.inl e))) rfl
 refine ⟨h.f.kept hk h.f.lt (by simpa using ok.n0), h.e.kept hk h.e.lt (by simpa using ok.n2), h.b5.kept hk h.b5.lt (by simpa using ok.n3), Blk.kept (show Blk w _ _ _ from h.ck) hk h.ck.lt (by simpa using ok.n4), h.jc, h.bl.trans ?_, h.np, Nat.lt_of_lt_of_le h.prl hk.size, rfl, hc.kept hk hc.lt (by simpa using ok.n1), Kfb hv hk hvn, hl, fun i x hx => ?_, hd⟩
 ·have hq := h.f.lt; exact ⟨hk.os, hk.tape, hk.output, hk.size, fun k hlt => hk.block k (by omega) (by have := ok.qr; simp; omega)⟩
 ·exact (hp i x hx).kept hk (fun e => hno L.pr (.inr (.inr (.inr ⟨x, List.mem_of_getElem? hx, .inl e⟩))) rfl) (fun e => hno L.pr (.inr (.inr (.inr ⟨x, List.mem_of_getElem? hx, .inr e⟩))) rfl)
theorem PM.keep {L : PLoc} (ok : Kes L) {st : List Ser × Nat} {O : Nat → Prop} {w w' : World} (h : PM L st O w) (hk : Kept w.heap.size [L.pr] w w') : PM L st O w' := by
 obtain ⟨hs, v, h⟩ := h; exact ⟨hs, v, h.keep ok hk⟩
theorem PSer.grow {L : PLoc} {O O' : Nat → Prop} {j : Nat} {w w' : World} {h : Hd3} {s : Ser} (hs : PSer L O j w h s) (hg : Grow O O' w w')
  (h1 : w'.ownsRow L.q 102 2 (spV h) s.samples.length (s.samples.flatMap Kbf)) (h2 : w'.ownsRow L.q 135 6 (wpV h) s.windows.length (s.windows.flatMap Kaw)) : PSer L O' j w' h s :=
 ⟨hs.labs hg.size fun k a b _ => hg.block k a b, hs.lc, hs.l8, fun hn a ha => ⟨fun hO => (hg.own _ hO).elim (hs.lo hn a ha).1 (fun h => absurd (hs.blk hn ha) (by omega)), (hs.lo hn a ha).2⟩, h1, h2, hs.ns, hs.nw⟩
theorem Qcx : (Tryz.prog.info? 58).map (fun i => (i.zero, i.size, i.bytes)) = some (some (.agg #[.slice none 0 0, .slice none 0 0, .slice none 0 0]), 3, 72) := by kernel_rfl
theorem Kxm {L : PLoc} (ok : Kes L) {st : List Ser × Nat} {O : Nat → Prop} (w : World) (h : PM L st O w) (hsz : st.1.length < 1099511627776) (A : Option Addr) (n c : Nat) (l : List Lb) (hE : Elems w w.heap.size 2 encLb A n l) (hc : n ≤ c) (h8 : n ≤ 8) (hA : ∀ a, A = some a → ¬ O a.block ∧ a.block ≠ L.pr) :
  Calls Tryz.prog 82 #[.slice A n c, .pointer (some ⟨L.q + 1, 0, none⟩)] w fun e w' => e = .returned (.tuple #[]) ∧ ∃ O', PM L (eachP st l) O' w' ∧ Grow O O' w w' := by
 obtain ⟨ib, hib, hz0, hz1, hz2⟩ := info_parts Qcx; obtain ⟨hs, v, h⟩ := h; obtain ⟨hO, hcb, hv, hl, hp, hd⟩ := h.ex; obtain ⟨AV, cV, rfl⟩ := Kbo hv; have H := Jh h; obtain ⟨q, hq⟩ : ∃ q, L.q = q := ⟨_, rfl⟩; have HQ := Jh hq; obtain ⟨m, hm⟩ : ∃ m, hs.length = m := ⟨_, rfl⟩; have hmz : m < 1099511627776 := by omega
 have hqw : L.q < w.heap.size := h.f.lt; rw [hm] at hv hcb hO; have HV := Jh hv; have HCB := Jh hcb; have HO := Jh hO; have HP := Jh hp; have HD := Jh hd; have HL := Jh hl; have HM := Jh hm; rw [hq] at hcb hv hqw; have c3 : w.cell? ⟨q + 1, 3, none⟩ = some (.slice AV m cV) := hcb.cell 3; have hlc := hcb.lt; rw [hq]; clear hO hl hp hd hm hq h hcb; go_enter Tryz.func82, Tryz.ntmps82
 go_wp2_with (at_builtin; refine wpList_append_own_at _ rfl _ _ 26 rfl q 58 ib (.agg #[.slice none 0 0, .slice none 0 0, .slice none 0 0]) 3 72 Tryz.underlying26 hib hz0 hz1 hz2 rfl (by decide) _ _ _ rfl (hv.alloc _) ⟨w.heap.size, 0, none⟩ 1 1 [.slice A n c, .slice none 0 0, .slice none 0 0] rfl rfl (Kbk (l := [.slice A n c, .slice none 0 0, .slice none 0 0]) (Blk.new w _ _)) ?p2 ?p3 ?p4 ?p5 ?_)
 case p2 => intro u hu; simp at hu; rcases hu with rfl | rfl <;> rfl
 case p3 => unfold maxLen; omega
 case p4 => omega
 case p5 => simp; omega
 intro v' w2 hown' hgrow _ hat; obtain ⟨A', c', rfl⟩ := Kbo hown'; have hall : w.grownBy w2 (Value.slice AV m cV).ownBlock := (World.grownBy_alloc w _ _).trans hgrow; have hc2 := HCB.out.grown hall (Kbx HCB.out HV.out (by decide)); rw [HQ.out] at hc2; have d3 : w2.cell? ⟨q + 1, 3, none⟩ = some (.slice AV m cV) := hc2.cell 3; have e3 := hc2.frozen 3; have HALL := Jh hall; have HC2 := Jh hc2; have HOWN := Jh hown'; have HAT := Jh hat; clear hown' hgrow hat hall hc2 hv c3; go_wp2_with fail
 go_end0
 have hqq := HQ.out; subst hqq; have hO := HO.out; have hall := HALL.out; have hv := HV.out; have h := H.out; have hcb := HCB.out; have hset : ∀ k, k ≠ L.q + 1 → (w2.setCell ⟨L.q + 1, 3, none⟩ (.slice A' (m + 1) c')).heap[k]? = w2.heap[k]? := fun k hk => Below.heap_setCell _ _ _ _ hk
 have hg : Grow O (pOwn L (.slice A' (m + 1) c') (hs ++ [⟨⟨A, n, c⟩, ⟨none, 0, 0⟩, ⟨none, 0, 0⟩⟩])) w (w2.setCell ⟨L.q + 1, 3, none⟩ (.slice A' (m + 1) c')) := by
  refine ⟨by have := hall.size; simp [World.setCell]; omega, fun k h1 h2 => ?_, fun k hk => ?_⟩
  ·rw [hset k (fun e => h2 (by rw [hO]; exact .inl e)), hall.block k h1 (fun e => h2 (by rw [hO]; exact .inr (.inr (.inl e.symm))))]
  ·rcases hk with hk | hk | hk | ⟨x, hx, hk⟩
   ·exact .inl (by rw [hO]; exact .inl hk)
   ·exact .inl (by rw [hO]; exact .inr (.inl hk))
   ·rcases HAT.out with h1 | h1
    ·exact .inl (by rw [hO]; exact .inr (.inr (.inl (h1.symm.trans hk))))
    ·right; rw [hk] at h1; injection h1 with h1; rw [h1]; simp
   ·rcases List.mem_append.1 hx with h1 | h1
    ·exact .inl (by rw [hO]; exact .inr (.inr (.inr ⟨x, h1, hk⟩)))
    ·rw [List.mem_singleton.1 h1] at hk; rcases hk with hk | hk <;> cases hk
 have hrow : ∀ {t : TypeId} {sz n : Nat} {u : Value} {xs : List Value}, w.ownsRow L.q t sz u n xs → t ≠ 58 → t ≠ 28 → (w2.setCell ⟨L.q + 1, 3, none⟩ (.slice A' (m + 1) c')).ownsRow L.q t sz u n xs := fun hr h1 h2 => Kcf (hr.kept hall (Kct hr hv h1)) HC2.out (Ne.symm h2)
 have hblk : ∀ {k : Nat} {t : TypeId} {cs : Array Value}, Blk w k t cs → t ≠ 58 → k ≠ L.q + 1 → Blk (w2.setCell ⟨L.q + 1, 3, none⟩ (.slice A' (m + 1) c')) k t cs := fun hb h1 h2 => (hset _ h2).trans (hb.grown hall (Kbx hb hv h1))
 refine ⟨rfl, _, ⟨hs ++ [⟨⟨A, n, c⟩, ⟨none, 0, 0⟩, ⟨none, 0, 0⟩⟩], _, hblk h.f (by decide) (by omega), hblk h.e (by decide) (by omega), hblk h.b5 (by decide) (h.b5.ne_ hcb (by decide)), hblk (show Blk w _ _ _ from h.ck) (by decide) (Blk.ne_ (show Blk w _ _ _ from h.ck) hcb (by decide)), h.jc, ?_, ?_, Nat.lt_of_lt_of_le h.prl hg.size, rfl, HC2.out.set_ 3 _, ?_, ?_, ?_, ?_⟩, hg⟩
 ·refine (h.bl.trans (⟨hall.os, hall.tape, hall.output, hall.size, fun k hk => hall.block k (by omega) (fun e => ?_)⟩ : Below L.q w w2)).setCell (p := ⟨L.q + 1, 3, none⟩) (by show L.q ≤ L.q + 1; omega) _; have := (hv.lt k e.symm).1; omega
 ·intro hp; rcases hg.own _ hp with h1 | h1
  ·exact h.np h1
  ·have := h.prl; omega
 ·have hr := Kcf (i := 3) (u := .slice A' (m + 1) c') HOWN.out HC2.out (by decide); rw [Jd, HM.out, List.flatMap_append]; exact hr
 ·show _ = (st.1 ++ [_]).length
  rw [Jd, Jd, HL.out]; rfl
 ·intro i x hx
  by_cases hi : i < hs.length
  ·rw [List.getElem?_append_left hi] at hx; have h1 := HP.out i x hx
   have e : (eachP st l).1[i]! = st.1[i]! := by
    show (st.1 ++ [_])[i]! = _
    have h2 : i < st.1.length := by rw [← HL.out]; exact hi
    rw [getElem!_pos _ i (by rw [Jd]; omega), getElem!_pos _ i h2, List.getElem_append_left h2]
   rw [e]; exact h1.grow hg (hrow h1.sr (by decide) (by decide)) (hrow h1.wr (by decide) (by decide))
  ·have hi2 : i = hs.length := by
    have := (List.getElem?_eq_some_iff.1 hx).1; rw [Jd, List.length_singleton] at this; omega
   subst hi2; have hx2 : x = ⟨⟨A, n, c⟩, ⟨none, 0, 0⟩, ⟨none, 0, 0⟩⟩ := by simpa using hx.symm
   subst hx2
   have e : (eachP st l).1[hs.length]! = ⟨l, [], []⟩ := by
    show (st.1 ++ [_])[hs.length]! = _
    rw [getElem!_pos _ _ (by rw [Jd, HL.out]; simp), List.getElem_append_right (by rw [HL.out]; exact Nat.le_refl _)]; simp
   rw [e]
   have hA' : 0 < n → ∀ a, A = some a → a.block < w.heap.size := fun hn a ha => by
    obtain ⟨b, off, e, hb2, _⟩ := hE.2 hn; rw [ha] at e; injection e with e; rw [e]; exact hb2
   refine ⟨?_, hc, h8, fun hn a ha => ⟨fun hO => ?_, (hA a ha).2⟩, World.ownsRow_nil _ _ _ _, World.ownsRow_nil _ _ _ _, by simp, by simp⟩
   ·rcases Nat.eq_zero_or_pos n with h0 | h0
    ·exact ⟨hE.1, fun hp => absurd h0 (by show ¬ n = 0; have : 0 < n := hp; omega)⟩
    ·refine (hE.keepAt fun a ha hAa => ?_).more hg.size
     cases hAA : A with
     | none => rw [hAA] at hAa; cases hAa
     | some x =>
      rw [hAA] at hAa; have hb : x.block = a.block := by simpa using hAa
      have := (hA x hAA).1; rw [hb] at this; exact World.cell?_of_block (w := w) (hg.block a.block ha this)
   ·rcases hg.own _ hO with h1 | h1
    ·exact (hA a ha).1 h1
    ·have := hA' hn a ha; omega
 ·intro i i' x x' hx hx' hne
  have hcase : ∀ {i : Nat} {x : Hd3}, (hs ++ [(⟨⟨A, n, c⟩, ⟨none, 0, 0⟩, ⟨none, 0, 0⟩⟩ : Hd3)])[i]? = some x → hs[i]? = some x ∨ x = ⟨⟨A, n, c⟩, ⟨none, 0, 0⟩, ⟨none, 0, 0⟩⟩ := by
   intro i x hx
   by_cases hi : i < hs.length
   ·rw [List.getElem?_append_left hi] at hx; exact .inl hx
   ·right; have hm := List.mem_of_getElem? hx; rw [List.getElem?_append_right (by omega)] at hx; have := List.mem_of_getElem? hx; exact List.mem_singleton.1 this
  rcases hcase hx with h1 | rfl
  ·rcases hcase hx' with h2 | rfl
   ·exact HD.out i i' x x' h1 h2 hne
   ·refine ⟨?_, ?_⟩
    ·cases (spV x).ownBlock with
     | none => exact .inl rfl
     | some k => exact .inr (by intro e; cases e)
    ·cases (wpV x).ownBlock with
     | none => exact .inl rfl
     | some k => exact .inr (by intro e; cases e)
  ·exact ⟨.inl rfl, .inl rfl⟩
theorem PX.reader {L : PLoc} (ok : Kes L) {st : List Ser × Nat} {O : Nat → Prop} {w : World} {hs : List Hd3} {v : Value} (h : PX L st O w hs v) {j : Nat} (hj : st.2 ≤ j) (hc : j ≤ L.C.size) :
  PX L (st.1, j) O (w.setCell ⟨L.pc, 1, none⟩ (.int .i64 ((j : Nat) : Int))) hs v ∧ Grow O O w (w.setCell ⟨L.pc, 1, none⟩ (.int .i64 ((j : Nat) : Int))) := by
 obtain ⟨hO, hcb, hv, hl, hp, hd⟩ := h.ex; have hck : Blk w L.pc 167 #[.string L.C, .int .i64 (st.2 : Int)] := h.ck; have hOc : O L.pc := by rw [hO]; exact .inr (.inl rfl)
 have hset : ∀ k, k ≠ L.pc → (w.setCell ⟨L.pc, 1, none⟩ (.int .i64 ((j : Nat) : Int))).heap[k]? = w.heap[k]? := fun k hk => Below.heap_setCell _ _ _ _ hk
 have hg : Grow O O w (w.setCell ⟨L.pc, 1, none⟩ (.int .i64 ((j : Nat) : Int))) := ⟨by simp [World.setCell], fun k _ hk => hset k (fun e => hk (by rw [e]; exact hOc)), fun k hk => .inl hk⟩; have hblk : ∀ {k : Nat} {t : TypeId} {cs : Array Value}, Blk w k t cs → t ≠ 167 → Blk (w.setCell ⟨L.pc, 1, none⟩ (.int .i64 ((j : Nat) : Int))) k t cs := fun hb h1 => (hset _ (hb.ne_ hck h1)).trans hb
 refine ⟨⟨hblk h.f (by decide), hblk h.e (by decide), hblk h.b5 (by decide), hck.set_ 1 _, hc, h.bl.setCell (p := ⟨L.pc, 1, none⟩) ok.qc _, h.np, Nat.lt_of_lt_of_le h.prl hg.size, hO, hblk hcb (by decide), Kcf hv hck (by decide), hl, fun i x hx => ?_, hd⟩, hg⟩; have h1 := (hp i x hx).grow hg (Kcf (hp i x hx).sr hck (by decide)) (Kcf (hp i x hx).wr hck (by decide)); exact ⟨h1.l, h1.lc, h1.l8, h1.lo, h1.sr, h1.wr, Nat.le_trans h1.ns (Nat.mul_le_mul_left 120 hj), Nat.le_trans h1.nw hj⟩
theorem PX.below {L : PLoc} (ok : Kes L) {st : List Ser × Nat} {O : Nat → Prop} {w w' : World} {hs : List Hd3} {v : Value} (h : PX L st O w hs v) (hb : Below w.heap.size w w') : PX L st O w' hs v := h.keep ok (Kept.of_below hb)
theorem Grow.below {O O' : Nat → Prop} {w w1 w' : World} (hb : Below w.heap.size w w1) (hg : Grow O O' w1 w') : Grow O O' w w' :=
 ⟨Nat.le_trans hb.size hg.size, fun k h1 h2 => (hg.block k (Nat.lt_of_lt_of_le h1 hb.size) h2).trans (hb.block k h1), fun k hk => (hg.own k hk).imp id (Nat.le_trans hb.size)⟩
theorem Grow.trans {O O1 O' : Nat → Prop} {w w1 w' : World} (h : Grow O O1 w w1) (hg : Grow O1 O' w1 w') : Grow O O' w w' := by
 refine ⟨Nat.le_trans h.size hg.size, fun k h1 h2 => (hg.block k (Nat.lt_of_lt_of_le h1 h.size) fun h3 => ?_).trans (h.block k h1 h2), fun k hk => ?_⟩
 ·rcases h.own k h3 with h4 | h4
  ·exact h2 h4
  ·omega
 ·rcases hg.own k hk with h4 | h4
  ·exact h.own k h4
  ·exact .inr (Nat.le_trans h.size h4)
end
section
open Go.RowKit
open Go.ChangeMaps (setBlock)
open Lib renaming hid → Jh
attribute [local go_sem ↓] Go.wp_at_zero Go.wp_at_succ
attribute [local go_sem] Later.cell
theorem LMap.far {w w' : World} {B b n k : Nat} {f : Lb → List Nat} {es : Array MapEntry} {clock : Nat} (h : LMap w B b f n es clock) (hg : w.grownBy w' (some k)) (hk : k < B) (hb : k ≠ b) : LMap w' B b f n es clock := by
 have hlt := (Array.getElem?_eq_some_iff.1 h.h).1; refine ⟨(hg.block b hlt (fun e => by injection e with e; exact hb e.symm)).trans h.h, h.st, h.sz, fun e he => ?_, h.a, h.o⟩; obtain ⟨x, hz, hk', hf, hw⟩ := h.k e he; refine ⟨x, hz, hk', hf, hw.kept hg (.inr fun e' => ?_)⟩; have := (hw.lt k e').1; omega
structure QLoc where
 w0 : World
 q : Nat
 pr : Nat
 m : Nat
 pb : Nat
 nb : Nat
 X : ByteArray
structure Knn (L : QLoc) : Prop where
 a : L.q + 2 < L.pr
 b : L.pr < L.m
 c : L.m < L.pb
 d : L.pb < L.nb
 w : L.w0.heap.size = L.q
def qOwn (L : QLoc) (es : Array MapEntry) : Nat → Prop := fun k => k = L.m ∨ k = L.nb ∨ ∃ e ∈ es.toList, e.val.ownBlock = some k
structure QX (L : QLoc) (S : List (List Lb)) (O : Nat → Prop) (w : World) (es : Array MapEntry) (clock : Nat) : Prop where
 f : Blk w L.q 9 #[.string L.X]
 o : Blk w (L.q + 1) 69 #[.slice none 0 0]
 e : Blk w (L.q + 2) 29 #[.int .i64 0]
 pb : Blk w L.pb 104 #[.map (some L.m)]
 nb : Blk w L.nb 3 #[.int .i64 (S.length : Int)]
 mp : LMap w (L.nb + 1) L.m (Kaj S) (8 * S.length) es clock
 ow : O = qOwn L es
 bl : Below L.q L.w0 w
def QM (L : QLoc) (S : List (List Lb)) (O : Nat → Prop) (w : World) : Prop := ∃ es clock, QX L S O w es clock
structure QN (L : QLoc) (w : World) : Prop where
 f : Blk w L.q 9 #[.string L.X]
 o : Blk w (L.q + 1) 69 #[.slice none 0 0]
 e : Blk w (L.q + 2) 29 #[.int .i64 0]
 bl : Below L.q L.w0 w
theorem QM.bad {L : QLoc} {S : List (List Lb)} {O : Nat → Prop} {w : World} (h : QM L S O w) : QN L w := by
 obtain ⟨es, clock, h⟩ := h; exact ⟨h.f, h.o, h.e, h.bl⟩
theorem QM.lt {L : QLoc} {S : List (List Lb)} {O : Nat → Prop} {w : World} (h : QM L S O w) : ∀ k, O k → k < w.heap.size := by
 obtain ⟨es, clock, h⟩ := h; rw [h.ow]; rintro k (rfl | rfl | ⟨e, he, hk⟩)
 ·exact (Array.getElem?_eq_some_iff.1 h.mp.h).1
 ·exact h.nb.lt
 ·obtain ⟨x, _, _, _, hw⟩ := h.mp.k e he; exact (hw.lt k hk).2
theorem QM.no {L : QLoc} (ok : Knn L) {S : List (List Lb)} {O : Nat → Prop} {w : World} (h : QM L S O w) : ¬ O L.pr := by
 obtain ⟨es, clock, h⟩ := h; have := ok.a; have := ok.b; have := ok.c; have := ok.d; rw [h.ow]; rintro (e | e | ⟨e, he, hk⟩)
 ·omega
 ·omega
 ·obtain ⟨x, _, _, _, hw⟩ := h.mp.k e he; have := (hw.lt _ hk).1; omega
theorem QM.keep {L : QLoc} (ok : Knn L) {S : List (List Lb)} {O : Nat → Prop} {w w' : World} (h : QM L S O w) (hk : Kept w.heap.size [L.pr] w w') : QM L S O w' := by
 obtain ⟨es, clock, h⟩ := h; have := ok.a; have := ok.b; have := ok.c; have := ok.d; have hg : w.grownBy w' (some L.pr) := ⟨hk.os, hk.tape, hk.output, hk.size, fun k h1 h2 => hk.block k h1 (by simpa using fun e => h2 (by rw [e]))⟩; refine ⟨es, clock, h.f.kept hk h.f.lt (by simp; omega), h.o.kept hk h.o.lt (by simp; omega), h.e.kept hk h.e.lt (by simp; omega), h.pb.kept hk h.pb.lt (by simp; omega), h.nb.kept hk h.nb.lt (by simp; omega), h.mp.far hg (by omega) (by omega), h.ow, h.bl.trans ⟨hk.os, hk.tape, hk.output, hk.size, fun k hlt => hk.block k (by have := h.f.lt; omega) (by simp; omega)⟩⟩
structure QK (L : QLoc) (S : List (List Lb)) (l : List Lb) (k : Nat) (O : Nat → Prop) (w0 w : World) (es : Array MapEntry) (clock : Nat) : Prop where
 f : Blk w L.q 9 #[.string L.X]
 o : Blk w (L.q + 1) 69 #[.slice none 0 0]
 e : Blk w (L.q + 2) 29 #[.int .i64 0]
 pb : Blk w L.pb 104 #[.map (some L.m)]
 nb : Blk w L.nb 3 #[.int .i64 (S.length : Int)]
 mp : LMap w (L.nb + 1) L.m (Kdh S l k) (8 * S.length + k) es clock
 g : Grow O (qOwn L es) w0 w
 bl : Below L.q L.w0 w
theorem Kpc {l : List Lb} (h : (names l).Pairwise (· < ·)) : l.Nodup := by
 unfold names at h; rw [List.pairwise_map] at h; exact h.imp fun hab e => by subst e; exact List.lt_irrefl _ hab
theorem Kyk {L : QLoc} (ok : Knn L) {S : List (List Lb)} {O : Nat → Prop} (w : World) (h : QM L S O w) (hsz : S.length < 1099511627776) (A : Option Addr) (n c : Nat) (l : List Lb) (hE : Elems w w.heap.size 2 encLb A n l) (hl : LabOk l) (hA : ∀ a, A = some a → ¬ O a.block) :
  Calls Tryz.prog 88 #[.slice A n c, .pointer (some ⟨L.pb, 0, none⟩), .pointer (some ⟨L.nb, 0, none⟩)] w fun e w' => e = .returned (.tuple #[]) ∧ ∃ O', QM L (S ++ [l]) O' w' ∧ Grow O O' w w' := by
 obtain ⟨es, clock, h⟩ := h; obtain ⟨i1, hi1, hy0, hy1, hy2⟩ := info_parts Kiq; have hE' := Jh hE; have HLN := Jh hE.len; have HLO := Jh hl; have HND := Jh (Kpc hl.2.2); have HA := Jh hA; have h0 : QK L S l 0 O w w es clock := ⟨h.f, h.o, h.e, h.pb, h.nb, by rw [Klu]; exact h.mp, by rw [← h.ow]; exact Grow.refl _ _, h.bl⟩; have H0 := Jh h0; have HON := Jh (show O L.nb ∧ O L.m from by rw [h.ow]; exact ⟨.inr (.inl rfl), .inl rfl⟩); obtain ⟨pb, hpb⟩ : ∃ pb, L.pb = pb := ⟨_, rfl⟩; obtain ⟨nb, hnb⟩ : ∃ nb, L.nb = nb := ⟨_, rfl⟩; obtain ⟨m, hm⟩ : ∃ m, L.m = m := ⟨_, rfl⟩; have HPB := Jh hpb; have HNB := Jh hnb; have HM := Jh hm; have OK := Jh ok; rw [hpb, hnb]; clear h h0 hl hA hE hpb hnb hm ok; go_enter Tryz.func88, Tryz.ntmps88
 go_wp2_with fail
 go_loopg [8] n (fun g s8 wr => ∃ (k : Nat) (es : Array MapEntry) (clock : Nat), k + g = n ∧ s8 = .int .i64 (k : Int) ∧ QK L S l k O w wr es clock)
 case atStart => exact ⟨0, _, _, by omega, rfl, H0.out⟩
 case round =>
  obtain ⟨k, es, clock, hkg, rfl, hq⟩ := hrel; have HKG := Jh hkg; have HQ := Jh hq; clear hkg hq; obtain ⟨wk, rfl⟩ : ∃ x, x = wr := ⟨_, rfl⟩; have hnbb : Blk wk nb 3 #[.int .i64 (S.length : Int)] := by have := HQ.out.nb; rw [HNB.out] at this; exact this
  have hpbb : Blk wk pb 104 #[.map (some m)] := by have := HQ.out.pb; rw [HPB.out, HM.out] at this; exact this
  have hn8 : n ≤ 8 := by have h1 : l.length = n := HLN.out; have h2 := HLO.out.1; omega
  by_cases hk : k < n
  ·have el : decide (k < n) = true := by rw [decide_eq_true_eq]; exact hk
   have hkl : k < l.length := by have := HLN.out; omega
   obtain ⟨ba, oa, hLA, hbal, hg⟩ := hE'.out.get hk; subst hLA; have hno : ¬ O ba := HA.out _ rfl; have hsame : wk.heap[ba]? = w.heap[ba]? := HQ.out.g.block ba hbal hno; have hxz := HLO.out.2.1 l[k]! (by rw [getElem!_pos l k hkl]; exact List.getElem_mem hkl); obtain ⟨x, hx⟩ : ∃ x, l[k]! = x := ⟨_, rfl⟩; have hstep := Kla (S := S) HND.out hkl; rw [hx] at hg hxz hstep; have a0 : wk.cell? ⟨ba, oa + k * 2, none⟩ = some (.string ⟨x.n.toArray⟩) := (World.cell?_of_block hsame).trans (hg 0 _ rfl); have a1 : wk.cell? ⟨ba, oa + k * 2 + 1, none⟩ = some (.string ⟨x.v.toArray⟩) := (World.cell?_of_block hsame).trans (hg 1 _ rfl); obtain ⟨N, hN⟩ : ∃ N : ByteArray, (⟨x.n.toArray⟩ : ByteArray) = N := ⟨_, rfl⟩; obtain ⟨V, hV⟩ : ∃ N : ByteArray, (⟨x.v.toArray⟩ : ByteArray) = N := ⟨_, rfl⟩; have hlb : lbV x = .agg #[.string N, .string V] := by unfold lbV; rw [hN, hV]
   rw [hN] at a0; rw [hV] at a1; have hbak : ba < wk.heap.size := by have := HQ.out.g.size; omega
   have HXZ := Jh hxz; have HSTEP := Jh hstep; have HLB := Jh hlb; clear hx hN hV hlb hxz hstep hg hsame hno hbal; go_upto_region 3 with fail
   have hb6 : Below wk.heap.size wk (wk.alloc (.cells #[.string N, .string V] 99)) := (Below.refl _ _).alloc (Nat.le_refl _) _; have hp6 : Blk (wk.alloc (.cells #[.string N, .string V] 99)) wk.heap.size 99 #[.string N, .string V] := Blk.new _ _ _; obtain ⟨w6, hw6⟩ : ∃ w6, wk.alloc (.cells #[.string N, .string V] 99) = w6 := ⟨_, rfl⟩; rw [hw6] at hb6 hp6 ⊢; obtain ⟨p9, hp9⟩ : ∃ p, wk.heap.size = p := ⟨_, rfl⟩; have hmap6 := HQ.out.mp.below hb6; have hnb6 := hnbb.below hb6 hnbb.lt; have hpb6 := hpbb.below hb6 hpbb.lt; rw [hp9] at hp6 ⊢; have q0 : w6.cell? ⟨p9, 0, none⟩ = some (.string N) := hp6.cell 0; have q1 : w6.cell? ⟨p9, 1, none⟩ = some (.string V) := hp6.cell 1; have n0 : w6.cell? ⟨nb, 0, none⟩ = some (.int .i64 (S.length : Int)) := hnb6.cell 0; have m0 : w6.cell? ⟨pb, 0, none⟩ = some (.map (some m)) := hpb6.cell 0; obtain ⟨w7, hw7⟩ : ∃ w7, w6.alloc (.cells #[.int .i64 (S.length : Int)] 3) = w7 := ⟨_, rfl⟩; have hb7 : Below w6.heap.size w6 w7 := by rw [← hw7]; exact (Below.refl _ _).alloc (Nat.le_refl _) _
   have hp7 : Blk w7 w6.heap.size 3 #[.int .i64 (S.length : Int)] := by rw [← hw7]; exact Blk.new _ _ _
   have hb67 := then_ hb6 hb7; have hmap7 := hmap6.below hb7; rw [HNB.out, HM.out] at hmap7; have hnbl := hnbb.lt; have hq7 : nb + 1 ≤ w7.heap.size := by have := hb67.size; omega
   obtain ⟨b7, hb79⟩ : ∃ p, w6.heap.size = p := ⟨_, rfl⟩; have hwz : wk.heap.size ≤ w7.heap.size := hb67.size; rw [hb79] at hp7; obtain ⟨v0, st, es1, clock1, hrun1, hrow0, hvm, hstp⟩ := hmap7.step x (by have := HXZ.out; omega) S.length hq7; rw [HLB.out] at hrun1; have hg8 : w7.grownBy (setBlock w7 m (.map es1 clock1)) (some m) := Kcu _; have hsz8 := Khh w7 m (.map es1 clock1); have hm8 := Kfm (.map es1 clock1) hmap7.h; obtain ⟨w8, hw8⟩ : ∃ w8, setBlock w7 m (.map es1 clock1) = w8 := ⟨_, rfl⟩; rw [hw8] at hrun1 hrow0 hstp hg8 hsz8 hm8
   have hnm : ∀ {W : World} {k9 : Nat} {t9 : TypeId} {cs9 : Array Value} {E : Array MapEntry} {cl : Nat}, Blk W k9 t9 cs9 → W.heap[m]? = some (.map E cl) → some k9 ≠ some m := fun hb hm e => by
    injection e with e; subst e; rw [show _ = _ from hb] at hm; cases hm
   have hp8 : Blk w8 b7 3 #[.int .i64 (S.length : Int)] := hp7.grown hg8 (hnm hp7 hmap7.h); obtain ⟨A0, cap0, rfl⟩ := Kbo hrow0; obtain ⟨n0, hn0⟩ : ∃ n0, (Kdh S l k x).length = n0 := ⟨_, rfl⟩
   have hn0le : n0 ≤ S.length + 1 := by
    rw [← hn0]; unfold Kdh; have h1 := Kfp S x
    split
    ·rw [List.length_append, List.length_singleton]; omega
    ·omega
   rw [hn0] at hrow0 hstp hrun1 hvm; have HSTP := Jh hstp; have HM8 := Jh hm8; have HVM := Jh hvm; have HSZ8 := Jh hsz8; have HMAP7 := Jh hmap7.h; have HB67 := Jh hb67; have HG8 := Jh hg8; have hq8 : nb + 1 ≤ w8.heap.size := by omega
   have HROW0 := Jh hrow0; have HP8 := Jh hp8; have HNM : Hid (∀ {W : World} {k9 : Nat} {t9 : TypeId} {cs9 : Array Value} {E : Array MapEntry} {cl : Nat}, Blk W k9 t9 cs9 → W.heap[m]? = some (.map E cl) → some k9 ≠ some m) := Jh hnm; clear hw6 hp9 hb6 hp6 hmap6 hb7 hp7 hmap7 hg8 hsz8 hp8 hstp hw8 a0 a1 hn0 hvm hm8 hnb6 hpb6 hnm hb67; go_wp2_with (at_builtin; refine wpList_append_own_at _ rfl _ _ 69 rfl (nb + 1) 3 i1 (.int .i64 0) 1 8 Tryz.underlying69 hi1 hy0 hy1 hy2 rfl (by decide) _ _ _ rfl HROW0.out ⟨b7, 0, none⟩ 1 1 [.int .i64 (S.length : Int)] rfl rfl (Kbk (l := [.int .i64 (S.length : Int)]) HP8.out) ?p2 ?p3 ?p4 ?p5 ?_)
   case p2 => first | rfl | (intro u hu; rw [List.mem_singleton.1 hu]; rfl)
   case p3 => unfold maxLen; omega
   case p4 => omega
   case p5 => omega
   intro v' w9 hown' hgrow _ hat; obtain ⟨es', clock', hrun2, hL', hes', hv0⟩ := HSTP.out w9 v' hgrow hown' (hat.imp id (fun h => by rw [HSZ8.out] at h; exact h)); rw [HSTEP.out] at hL'; have hg10 : w9.grownBy (setBlock w9 m (.map es' clock')) (some m) := Kcu _; obtain ⟨w10, hw10⟩ : ∃ w10, setBlock w9 m (.map es' clock') = w10 := ⟨_, rfl⟩; rw [hw10] at hrun2 hL' hg10; have hm9 : w9.heap[m]? = some (.map es1 clock1) := (hgrow.block m (Array.getElem?_eq_some_iff.1 HM8.out).1 (Ne.symm HVM.out)).trans HM8.out
   have hkeep : ∀ {k9 : Nat} {t9 : TypeId} {cs9 : Array Value}, Blk wk k9 t9 cs9 → (Blk w8 k9 t9 cs9 → some k9 ≠ (Value.slice A0 n0 cap0).ownBlock) → Blk w10 k9 t9 cs9 := fun hb hne => by
    have k7 := hb.below HB67.out hb.lt; have k8 := k7.grown HG8.out (HNM.out k7 HMAP7.out); have k9 := k8.grown hgrow (hne k8); exact k9.grown hg10 (HNM.out k9 hm9)
   have hqk := HQ.out
   have hnew : QK L S l (k + 1) O w w10 es' clock' := by
    refine ⟨hkeep hqk.f (fun h8 => Kbx h8 HROW0.out (by decide)), hkeep hqk.o (fun h8 => Kbx h8 HROW0.out (by decide)), hkeep hqk.e (fun h8 => Kbx h8 HROW0.out (by decide)), hkeep hqk.pb (fun h8 => Kbx h8 HROW0.out (by decide)), hkeep hqk.nb (fun h8 e => by have := (World.ownsRow.lt HROW0.out _ e.symm).1; have := HNB.out; omega), by rw [HNB.out, HM.out]; exact hL', ?_, ?_⟩
    ·refine hqk.g.trans ⟨?_, fun k9 h1 h2 => ?_, fun k9 hk9 => ?_⟩
     ·have := hgrow.size; have := hg10.size; have := HSZ8.out; omega
     ·have hkm : some k9 ≠ some m := fun e => by
       injection e with e; exact h2 (by rw [e]; exact .inl HM.out.symm)
      have hkv : some k9 ≠ (Value.slice A0 n0 cap0).ownBlock := fun e => by
       rcases hv0 with h | ⟨e0, he0, hev⟩
       ·rw [h] at e; cases e
       ·exact h2 (.inr (.inr ⟨e0, he0, by rw [hev]; exact e.symm⟩))
      have z9 := hgrow.size; have z8 := HSZ8.out; rw [hg10.block k9 (by omega) hkm, hgrow.block k9 (by omega) hkv, HG8.out.block k9 (by omega) hkm, HB67.out.block k9 h1]
     ·rcases hk9 with h | h | ⟨e', he', hk'⟩
      ·exact .inl (.inl h)
      ·exact .inl (.inr (.inl h))
      ·rcases hes' e' he' with h | h
       ·rw [h] at hk'; rcases hat with h3 | h3
        ·rcases hv0 with h4 | ⟨e0, he0, hev⟩
         ·rw [h3, h4] at hk'; cases hk'
         ·exact .inl (.inr (.inr ⟨e0, he0, by rw [hev, ← h3]; exact hk'⟩))
        ·rw [h3] at hk'; injection hk' with hk'; right; have := HSZ8.out; omega
       ·exact .inl (.inr (.inr ⟨e', h, hk'⟩))
    ·have hqq := OK.out; have a1 := hqq.a; have a2 := hqq.b; have a3 := hqq.c; have a4 := hqq.d; have hmm := HM.out; have hnn := HNB.out; have hqlt := hqk.f.lt; have z8 := HSZ8.out; have z9 := hgrow.size; refine (hqk.bl.trans (HB67.out.mono (by omega))).trans ⟨?_, ?_, ?_, by have := hg10.size; omega, fun j hj => ?_⟩
     ·exact (hg10.os.trans hgrow.os).trans HG8.out.os
     ·exact (hg10.tape.trans hgrow.tape).trans HG8.out.tape
     ·exact (hg10.output.trans hgrow.output).trans HG8.out.output
     ·rw [hg10.block j (by omega) (fun e => by injection e with e; omega), hgrow.block j (by omega) (fun e => by have := (World.ownsRow.lt HROW0.out j e.symm).1; omega), HG8.out.block j (by omega) (fun e => by injection e with e; omega)]
   have HNEW := Jh hnew; clear hown' hgrow hat hL' hg10 hw10 hm9 hkeep hqk hnew hes' hv0; go_wp2_with fail
   go_roundg (gk - 1)
   case measure => have := HKG.out; omega
   case rel => exact ⟨k + 1, _, _, by have := HKG.out; omega, by go_num, HNEW.out⟩
  ·have el : decide (k < n) = false := by rw [decide_eq_false_iff_not]; exact hk
   have hkl : k = l.length := by have := HKG.out; have := HLN.out; omega
   have n0 : wk.cell? ⟨nb, 0, none⟩ = some (.int .i64 (S.length : Int)) := hnbb.cell 0; have nf := hnbb.frozen 0; have hnl := hnbb.lt; go_wp2_with fail
   go_end0
   have hq := HQ.out; have hmp := hq.mp; rw [hkl, Knp] at hmp; have hl8 := HLO.out.1; have hnm : L.nb ≠ L.m := by have a := OK.out.c; have b := OK.out.d; omega
   have hg : wk.grownBy (wk.setCell ⟨L.nb, 0, none⟩ (.int .i64 ((S.length : Int) + 1))) (some L.nb) := ⟨rfl, rfl, rfl, by simp [World.setCell], fun k9 _ h9 => Below.heap_setCell _ _ _ _ (fun e => h9 (by rw [e]))⟩; have hS1 : (((S ++ [l]).length : Nat) : Int) = (S.length : Int) + 1 := by simp
   rw [← HNB.out]; refine ⟨rfl, _, ⟨es, clock, hq.f.far (p := ⟨L.nb, 0, none⟩) (hq.f.ne_ hq.nb (by decide)) _, hq.o.far (p := ⟨L.nb, 0, none⟩) (hq.o.ne_ hq.nb (by decide)) _, hq.e.far (p := ⟨L.nb, 0, none⟩) (hq.e.ne_ hq.nb (by decide)) _, hq.pb.far (p := ⟨L.nb, 0, none⟩) (hq.pb.ne_ hq.nb (by decide)) _, by rw [hS1]; exact hq.nb.set_ 0 _, (hmp.far hg (Nat.lt_succ_self _) hnm).mono (by rw [List.length_append, List.length_singleton]; omega), rfl, hq.bl.setCell (p := ⟨L.nb, 0, none⟩) (by have a := OK.out.a; have b := OK.out.b; have c := OK.out.c; have d := OK.out.d; show L.q ≤ L.nb; omega) _⟩, Nat.le_trans hq.g.size (by simp [World.setCell]), fun k9 h1 h2 => ?_, hq.g.own⟩; rw [Below.heap_setCell _ _ _ _ (fun e => h2 (by rw [e]; exact HON.out.1))]; exact hq.g.block k9 h1 h2
end
section
open Go.RowKit
theorem PSer.grow2 {L : PLoc} {O O' : Nat → Prop} {j j' : Nat} {w w' : World} {h h' : Hd3} {s s' : Ser} (hs : PSer L O j w h s) (hg : Grow O O' w w') (hl : h'.l = h.l) (hls : s'.labels = s.labels)
  (h1 : w'.ownsRow L.q 102 2 (spV h') s'.samples.length (s'.samples.flatMap Kbf)) (h2 : w'.ownsRow L.q 135 6 (wpV h') s'.windows.length (s'.windows.flatMap Kaw))
  (h3 : s'.samples.length ≤ 120 * j') (h4 : s'.windows.length ≤ j') : PSer L O' j' w' h' s' := by
 refine ⟨?_, by rw [hl]; exact hs.lc, by rw [hl]; exact hs.l8, ?_, h1, h2, h3, h4⟩
 ·rw [hl, hls]; exact hs.labs hg.size fun k a b _ => hg.block k a b
 ·rw [hl]; exact fun hn a ha => ⟨fun hO => (hg.own _ hO).elim (hs.lo hn a ha).1 (fun h => absurd (hs.blk hn ha) (by omega)), (hs.lo hn a ha).2⟩
theorem Kqe : ∀ (hs : List Hd3) (m r : Nat) (h h' : Hd3) (V : Value), hs[m]? = some h → r < 3 → encH3 h' = (encH3 h).set r V → (hs.set m h').flatMap encH3 = (hs.flatMap encH3).set (m * 3 + r) V
 | [], m, r, h, h', V, h1, _, _ => by simp at h1
 | x :: l, 0, r, h, h', V, h1, h2, h3 => by
  have e : x = h := by simpa using h1
  subst e; have hl : (encH3 x).length = 3 := rfl; rw [List.set_cons_zero, List.flatMap_cons, List.flatMap_cons, Nat.zero_mul, Nat.zero_add, List.set_append_left _ _ (by omega), h3]
 | x :: l, m + 1, r, h, h', V, h1, h2, h3 => by
  have hl : (encH3 x).length = 3 := rfl; rw [List.set_cons_succ, List.flatMap_cons, List.flatMap_cons, List.set_append_right _ _ (by omega), hl, show (m + 1) * 3 + r - 3 = m * 3 + r by omega]; rw [Kqe l m r h h' V (by simpa using h1) h2 h3]
theorem PX.last {L : PLoc} (ok : Kes L) {st : List Ser × Nat} {O : Nat → Prop} {w w4 : World} {hs : List Hd3} {g m : Nat} {cV : Nat} (h : PX L st O w hs (.slice (some ⟨g, 0, none⟩) (m + 1) cV)) (hm : hs.length = m + 1)
  {h9 h9' : Hd3} {s9' : Ser} (hh : hs[m]? = some h9) (hl : h9'.l = h9.l) (hlab : s9'.labels = st.1[m]!.labels) {row : Option Nat} {r : Nat} {V : Value} (hr : r < 3) (hset : encH3 h9' = (encH3 h9).set r V)
  (hg4 : w.grownBy w4 row) (hrowO : ∀ k, row = some k → (spV h9).ownBlock = some k ∨ (wpV h9).ownBlock = some k)
  (hrowT : ∀ k, row = some k → ∃ t cs, (t = 102 ∨ t = 135) ∧ Blk w k t cs)
  (hother : ∀ (i : Nat) (x : Hd3), hs[i]? = some x → i ≠ m → ((spV x).ownBlock = none ∨ (spV x).ownBlock ≠ row) ∧ ((wpV x).ownBlock = none ∨ (wpV x).ownBlock ≠ row))
  (hs4 : w4.ownsRow L.q 102 2 (spV h9') s9'.samples.length (s9'.samples.flatMap Kbf)) (hw4 : w4.ownsRow L.q 135 6 (wpV h9') s9'.windows.length (s9'.windows.flatMap Kaw))
  (hso : (spV h9').ownBlock = (spV h9).ownBlock ∨ (spV h9').ownBlock = some w.heap.size) (hwo : (wpV h9').ownBlock = (wpV h9).ownBlock ∨ (wpV h9').ownBlock = some w.heap.size)
  (hns : s9'.samples.length ≤ 120 * st.2) (hnw : s9'.windows.length ≤ st.2) :
  ∃ O', PX L (st.1.dropLast ++ [s9'], st.2) O' (w4.setCell ⟨g, m * 3 + r, none⟩ V) (hs.set m h9') (.slice (some ⟨g, 0, none⟩) (m + 1) cV) ∧ Grow O O' w (w4.setCell ⟨g, m * 3 + r, none⟩ V) := by
 obtain ⟨hO, hcb, hv, hlen, hp, hd⟩ := h.ex; obtain ⟨cur, hcur⟩ := Kce hv (r := g) rfl; have hgb : Blk w g 58 cur := hcur
 have hrow : ∀ {k : Nat} {t : TypeId} {cs : Array Value}, Blk w k t cs → t ≠ 102 → t ≠ 135 → some k ≠ row := fun {k t cs} hb h1 h2 e => by
  obtain ⟨t', cs', h3, h4⟩ := hrowT k e.symm; refine hb.ne_ h4 ?_ rfl; rcases h3 with rfl | rfl
  ·exact h1
  ·exact h2
 have hgr : some g ≠ row := hrow hgb (by decide) (by decide); have hgb4 : Blk w4 g 58 cur := hgb.grown hg4 hgr; have hset4 : ∀ k, k ≠ g → (w4.setCell ⟨g, m * 3 + r, none⟩ V).heap[k]? = w4.heap[k]? := fun k hk => Below.heap_setCell _ _ _ _ hk
 have hblk : ∀ {k : Nat} {t : TypeId} {cs : Array Value}, Blk w k t cs → t ≠ 102 → t ≠ 135 → t ≠ 58 → Blk (w4.setCell ⟨g, m * 3 + r, none⟩ V) k t cs := fun hb h1 h2 h3 =>
  (hset4 _ (hb.ne_ hgb h3)).trans (hb.grown hg4 (hrow hb h1 h2))
 have hvn : (Value.slice (some ⟨g, 0, none⟩) (m + 1) cV).ownBlock = some g := rfl; have hsz : w4.heap.size ≤ (w4.setCell ⟨g, m * 3 + r, none⟩ V).heap.size := by simp [World.setCell]
 have hgrow : Grow O (pOwn L (.slice (some ⟨g, 0, none⟩) (m + 1) cV) (hs.set m h9')) w (w4.setCell ⟨g, m * 3 + r, none⟩ V) := by
  refine ⟨Nat.le_trans hg4.size hsz, fun k h1 h2 => ?_, fun k hk => ?_⟩
  ·rw [hset4 k (fun e => h2 (by rw [hO, e]; exact .inr (.inr (.inl rfl))))]; refine hg4.block k h1 fun e => h2 ?_
   rw [hO]; exact .inr (.inr (.inr ⟨h9, List.mem_of_getElem? hh, hrowO k e.symm⟩))
  ·rcases hk with hk | hk | hk | ⟨x, hx, hk⟩
   ·exact .inl (by rw [hO]; exact .inl hk)
   ·exact .inl (by rw [hO]; exact .inr (.inl hk))
   ·exact .inl (by rw [hO]; exact .inr (.inr (.inl hk)))
   ·rcases List.mem_or_eq_of_mem_set hx with h1 | rfl
    ·exact .inl (by rw [hO]; exact .inr (.inr (.inr ⟨x, h1, hk⟩)))
    ·have h9m := List.mem_of_getElem? hh; rcases hk with hk | hk
     ·rcases hso with h1 | h1
      ·exact .inl (by rw [hO]; exact .inr (.inr (.inr ⟨h9, h9m, .inl (h1.symm.trans hk)⟩)))
      ·right; rw [hk] at h1; injection h1 with h1; omega
     ·rcases hwo with h1 | h1
      ·exact .inl (by rw [hO]; exact .inr (.inr (.inr ⟨h9, h9m, .inr (h1.symm.trans hk)⟩)))
      ·right; rw [hk] at h1; injection h1 with h1; omega
 have hv4 := (hv.kept hg4 (.inr (by rw [hvn]; exact hgr))); have hst4 := (hm ▸ hv4).stored (m * 3 + r) V; have hL : st.1.length = m + 1 := by rw [← hlen]; exact hm
 have hdl : (st.1.dropLast ++ [s9']).length = m + 1 := by rw [List.length_append, List.length_dropLast, hL]; rfl
 have hq := h.f.lt; have hgq : L.q ≤ g := (hv.lt g rfl).1; refine ⟨_, ⟨hblk h.f (by decide) (by decide) (by decide), hblk h.e (by decide) (by decide) (by decide), hblk h.b5 (by decide) (by decide) (by decide), hblk (show Blk w _ _ _ from h.ck) (by decide) (by decide) (by decide), h.jc, ?_, ?_, Nat.lt_of_lt_of_le h.prl hgrow.size, rfl, hblk hcb (by decide) (by decide) (by decide), ?_, ?_, ?_, ?_⟩, hgrow⟩
 ·refine (h.bl.trans (⟨hg4.os, hg4.tape, hg4.output, hg4.size, fun k hk => hg4.block k (by omega) (fun e => ?_)⟩ : Below L.q w w4)).setCell (p := ⟨g, m * 3 + r, none⟩) hgq _; have h9p := hp m h9 hh; rcases hrowO k e.symm with h1 | h1
  ·have := (h9p.sr.lt k h1).1; omega
  ·have := (h9p.wr.lt k h1).1; omega
 ·intro hpr; rcases hgrow.own _ hpr with h1 | h1
  ·exact h.np h1
  ·have := h.prl; omega
 ·have e := Kqe hs m r h9 h9' V hh hr hset; rw [List.length_set, hm, e]; exact hst4.1
 ·show (hs.set m h9').length = (st.1.dropLast ++ [s9']).length
  rw [List.length_set, hdl, hm]
 ·intro i x hx
  by_cases hi : i = m
  ·subst hi
   have hx' : x = h9' := by
    rw [List.getElem?_set_self (by omega)] at hx; injection hx with hx; exact hx.symm
   subst hx'
   have e : (st.1.dropLast ++ [s9'])[i]! = s9' := by
    rw [getElem!_pos _ _ (by omega), List.getElem_append_right (by rw [List.length_dropLast, hL]; simp)]; simp [List.length_dropLast, hL]
   show PSer L _ st.2 _ x (st.1.dropLast ++ [s9'])[i]!
   rw [e]; exact (hp i h9 hh).grow2 hgrow hl hlab (Kcf hs4 hgb4 (by decide)) (Kcf hw4 hgb4 (by decide)) hns hnw
  ·have hx0 : hs[i]? = some x := by rw [List.getElem?_set_ne (Ne.symm hi)] at hx; exact hx
   have hil : i < m := by have := (List.getElem?_eq_some_iff.1 hx0).1; omega
   have e : (st.1.dropLast ++ [s9'])[i]! = st.1[i]! := by
    rw [getElem!_pos _ _ (by omega), getElem!_pos _ i (by omega), List.getElem_append_left (by rw [List.length_dropLast, hL]; omega), List.getElem_dropLast]
   show PSer L _ st.2 _ x (st.1.dropLast ++ [s9'])[i]!
   rw [e]; have h1 := hp i x hx0; have h2 := hother i x hx0 hi; exact h1.grow hgrow (Kcf (h1.sr.kept hg4 h2.1) hgb4 (by decide)) (Kcf (h1.wr.kept hg4 h2.2) hgb4 (by decide))
 ·have hlt : ∀ {i : Nat} {x : Hd3}, hs[i]? = some x → (spV x).ownBlock ≠ some w.heap.size ∧ (wpV x).ownBlock ≠ some w.heap.size := fun {i x} hx => ⟨fun e => by have := ((hp i x hx).sr.lt _ e).2; omega, fun e => by have := ((hp i x hx).wr.lt _ e).2; omega⟩
  have hcase : ∀ {i : Nat} {x : Hd3}, (hs.set m h9')[i]? = some x → (i ≠ m ∧ hs[i]? = some x) ∨ (i = m ∧ x = h9') := by
   intro i x hx
   by_cases hi : i = m
   ·subst hi; rw [List.getElem?_set_self (by omega)] at hx; injection hx with hx; exact .inr ⟨rfl, hx.symm⟩
   ·rw [List.getElem?_set_ne (Ne.symm hi)] at hx; exact .inl ⟨hi, hx⟩
  intro i i' x x' hx hx' hne; rcases hcase hx with ⟨hi, h1⟩ | ⟨rfl, rfl⟩
  ·rcases hcase hx' with ⟨hi', h2⟩ | ⟨rfl, rfl⟩
   ·exact hd i i' x x' h1 h2 hne
   ·have h3 := hd i i' x h9 h1 hh hne; have h4 := hlt h1; refine ⟨?_, ?_⟩
    ·rcases hso with h5 | h5
     ·rw [h5]; exact h3.1
     ·rw [h5]; exact .inr h4.1
    ·rcases hwo with h5 | h5
     ·rw [h5]; exact h3.2
     ·rw [h5]; exact .inr h4.2
  ·rcases hcase hx' with ⟨hi', h2⟩ | ⟨rfl, rfl⟩
   ·have h3 := hd i i' h9 x' hh h2 hne; have h4 := hlt h2; refine ⟨?_, ?_⟩
    ·rcases hso with h5 | h5
     ·rw [h5]; exact h3.1
     ·rw [h5]; exact .inr (Ne.symm h4.1)
    ·rcases hwo with h5 | h5
     ·rw [h5]; exact h3.2
     ·rw [h5]; exact .inr (Ne.symm h4.2)
   ·exact absurd rfl hne
theorem PX.moreS {L : PLoc} (ok : Kes L) {st : List Ser × Nat} {O : Nat → Prop} {w w4 : World} {hs : List Hd3} {g m : Nat} {cV : Nat} (h : PX L st O w hs (.slice (some ⟨g, 0, none⟩) (m + 1) cV)) (hm : hs.length = m + 1)
  {h9 : Hd3} (hh : hs[m]? = some h9) {s9 : Ser} (he : st.1[m]! = s9) {l : List Smp} {A : Option Addr} {n c : Nat} (hown : w4.ownsRow L.q 102 2 (.slice A n c) (s9.samples.length + l.length) (s9.samples.flatMap Kbf ++ l.flatMap Kbf))
  (hg4 : w.grownBy w4 (spV h9).ownBlock) (hat : (Value.slice A n c).ownBlock = (spV h9).ownBlock ∨ (Value.slice A n c).ownBlock = some w.heap.size) (hns : s9.samples.length + l.length ≤ 120 * st.2) :
  ∃ O', PX L (st.1.dropLast ++ [{ s9 with samples := s9.samples ++ l }], st.2) O' (w4.setCell ⟨g, m * 3 + 1, none⟩ (.slice A n c)) (hs.set m { h9 with s := ⟨A, n, c⟩ }) (.slice (some ⟨g, 0, none⟩) (m + 1) cV) ∧ Grow O O' w (w4.setCell ⟨g, m * 3 + 1, none⟩ (.slice A n c)) := by
 obtain ⟨hO, hcb, hv, hlen, hp, hd⟩ := h.ex; have h9p := hp m h9 hh; rw [he] at h9p; refine h.last ok hm hh (h9' := { h9 with s := ⟨A, n, c⟩ }) rfl (by rw [he]) (r := 1) (by omega) rfl hg4 (fun k hk => .inl hk) (fun k hk => ?_) (fun i x hx hi => ⟨(hd i m x h9 hx hh hi).1, Kct (hp i x hx).wr h9p.sr (by decide)⟩) ?_ (h9p.wr.kept hg4 (Kct h9p.wr h9p.sr (by decide))) hat (.inl rfl) (by simpa using hns) h9p.nw
 ·obtain ⟨cur, hc⟩ := Kce h9p.sr hk; exact ⟨_, cur, .inl rfl, hc⟩
 ·show w4.ownsRow _ _ _ _ (s9.samples ++ l).length ((s9.samples ++ l).flatMap Kbf)
  rw [List.length_append, List.flatMap_append]; exact hown
theorem PX.moreW {L : PLoc} (ok : Kes L) {st : List Ser × Nat} {O : Nat → Prop} {w w4 : World} {hs : List Hd3} {g m : Nat} {cV : Nat} (h : PX L st O w hs (.slice (some ⟨g, 0, none⟩) (m + 1) cV)) (hm : hs.length = m + 1)
  {h9 : Hd3} (hh : hs[m]? = some h9) {s9 : Ser} (he : st.1[m]! = s9) {l : List Wnd} {A : Option Addr} {n c : Nat} (hown : w4.ownsRow L.q 135 6 (.slice A n c) (s9.windows.length + l.length) (s9.windows.flatMap Kaw ++ l.flatMap Kaw))
  (hg4 : w.grownBy w4 (wpV h9).ownBlock) (hat : (Value.slice A n c).ownBlock = (wpV h9).ownBlock ∨ (Value.slice A n c).ownBlock = some w.heap.size) (hnw : s9.windows.length + l.length ≤ st.2) :
  ∃ O', PX L (st.1.dropLast ++ [{ s9 with windows := s9.windows ++ l }], st.2) O' (w4.setCell ⟨g, m * 3 + 2, none⟩ (.slice A n c)) (hs.set m { h9 with w := ⟨A, n, c⟩ }) (.slice (some ⟨g, 0, none⟩) (m + 1) cV) ∧ Grow O O' w (w4.setCell ⟨g, m * 3 + 2, none⟩ (.slice A n c)) := by
 obtain ⟨hO, hcb, hv, hlen, hp, hd⟩ := h.ex; have h9p := hp m h9 hh; rw [he] at h9p; refine h.last ok hm hh (h9' := { h9 with w := ⟨A, n, c⟩ }) rfl (by rw [he]) (r := 2) (by omega) rfl hg4 (fun k hk => .inr hk) (fun k hk => ?_) (fun i x hx hi => ⟨Kct (hp i x hx).sr h9p.wr (by decide), (hd i m x h9 hx hh hi).2⟩) (h9p.sr.kept hg4 (Kct h9p.sr h9p.wr (by decide))) ?_ (.inl rfl) hat h9p.ns (by simpa using hnw)
 ·obtain ⟨cur, hc⟩ := Kce h9p.wr hk; exact ⟨_, cur, .inr rfl, hc⟩
 ·show w4.ownsRow _ _ _ _ (s9.windows ++ l).length ((s9.windows ++ l).flatMap Kaw)
  rw [List.length_append, List.flatMap_append]; exact hown
theorem Qdy {a : Wnd} {first : Bool} {s : List UInt8} {i j : Nat} {w : Wnd} (h : wndR a first s i = some (w, j)) (hi : i ≤ s.length) : i < j ∧ j ≤ s.length := by
 unfold wndR at h
 split at h
 ·cases h
 rename_i h1
 split at h
 ·cases h
 rename_i h2
 split at h
 ·cases h
 rename_i h3
 split at h
 ·cases h
 rename_i h4
 split at h
 ·cases h
 rename_i h5
 split at h
 ·cases h
 rename_i h6
 split at h
 ·injection h with h; injection h with _ h; subst h; have k1 := Kbr hi h1; have k2 := Kbr k1.2 h2; have k3 := Kbr k2.2 h3; have k4 := Kbr k3.2 h4; have k5 := Kbr k4.2 h5; have k6 := Kbr k5.2 h6; omega
 ·cases h
theorem Kqg (s : List UInt8) : ∀ (n : Nat) (a : Wnd) (first : Bool) (i : Nat) {l : List Wnd} {j : Nat}, wndsR s n a first i = some (l, j) → i ≤ s.length → i + l.length ≤ j ∧ j ≤ s.length
 | 0, a, first, i, l, j, h, hi => by
  injection h with h; injection h with h1 h2; subst h1 h2; exact ⟨Nat.le_refl _, hi⟩
 | n + 1, a, first, i, l, j, h, hi => by
  rw [wndsR] at h
  split at h
  ·cases h
  rename_i h1
  split at h
  ·cases h
  rename_i h2
  injection h with h; injection h with h3 h4; subst h3 h4; have k1 := Qdy h1 hi; have k2 := Kqg s n _ _ _ h2 k1.2; rw [List.length_cons]; omega
theorem Ksr {s : List UInt8} {l : List Wnd} (h : aggR s = some l) : l.length ≤ s.length := by
 unfold aggR at h
 split at h
 ·cases h
 rename_i h1
 split at h
 ·cases h
 rename_i h2
 split at h
 ·injection h with h; subst h; have k1 := Kbr (Nat.zero_le _) h1; have k2 := Kqg s _ _ _ _ h2 k1.2; omega
 ·cases h
theorem Ksf (l : List Wnd) : (l.flatMap Kaw).length = l.length * 6 := by
 induction l with
 | nil => rfl
 | cons x l ih => rw [List.flatMap_cons, List.length_append, ih, List.length_cons]; show 6 + _ = _; omega
theorem Kks {l : List Ser} {m : Nat} (h : l.length = m + 1) : l.getLast?.getD ⟨[], [], []⟩ = l[m]! := by
 rw [List.getLast?_eq_getElem?, h, Nat.add_sub_cancel, List.getElem?_eq_getElem (by omega), getElem!_pos _ _ (by omega)]; rfl
theorem Koa (w : World) (row : Option Nat) : w.grownBy w row := ⟨rfl, rfl, rfl, Nat.le_refl _, fun _ _ _ => rfl⟩
end
end Go.Proofs.YtdoiekknhnbepaaGreatDoor
