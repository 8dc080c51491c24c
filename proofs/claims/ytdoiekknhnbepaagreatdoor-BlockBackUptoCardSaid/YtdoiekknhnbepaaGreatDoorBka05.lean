/- Merged (what the claim wants of): EncSealE, EncSealF, UnpPlain, BackPlain, PostPlain, SpnPlain2, BlkPlain2, BlkPlain3, BlkOpen, BlkPlain4, AggWalksA. -/
import Derived.Test.YtdoiekknhnbepaaGreatDoorBka04
import Derived.Test.YtdoiekknhnbepaaGreatDoorBka02
import Derived.Test.YtdoiekknhnbepaaGreatDoorBka03
import Derived.Test.YtdoiekknhnbepaaGreatDoorBka01
set_option linter.unusedVariables false
set_option linter.unusedSimpArgs false
namespace Go.Proofs.YtdoiekknhnbepaaGreatDoor
open Go.RowKit
open Lib renaming hid → Jh
attribute [local go_sem ↓] Go.wp_at_zero Go.wp_at_succ
attribute [local go_sem] Later.cell
theorem Qda {l : List Txt} {i : Nat} (hi : i < l.length) : (l.take (i + 1)).flatten = (l.take i).flatten ++ l[i]! := by
 rw [List.take_succ_eq_append_getElem hi, List.flatten_append, getElem!_pos l i hi]; simp
theorem Qfw {n a : Nat} (ha : a < 2 ^ n) : a ^^^ (2 ^ n - 1) = 2 ^ n - 1 - a := by
 have h := BitVec.toNat_not (x := BitVec.ofNat n a); rw [← BitVec.xor_allOnes, BitVec.toNat_xor, BitVec.toNat_allOnes, BitVec.toNat_ofNat, Nat.mod_eq_of_lt ha] at h; exact h
theorem Kny {a : Nat} (ha : a < 18446744073709551616) : a ^^^ 18446744073709551615 = 18446744073709551615 - a := Qfw (n := 64) ha
theorem Qfn {v : Int} (h1 : -9223372036854775808 ≤ v) (h2 : v ≤ 9223372036854775807) :
  bits .xor .u64 (IntKind.u64.wrap (wrap64 (v * 2))) (IntKind.u64.wrap (v / 9223372036854775808)) = ((zig v : Nat) : Int) := by
 rw [IntKind.wrap_u64, IntKind.wrap_u64]; unfold wrap64
 by_cases h : 0 ≤ v
 ·have e1 : ((v * 2 + 9223372036854775808) % 18446744073709551616 - 9223372036854775808) % 18446744073709551616 = ((zig v : Nat) : Int) := by unfold zig; rw [if_pos h]; omega
  have e2 : v / 9223372036854775808 % 18446744073709551616 = ((0 : Nat) : Int) := by omega
  rw [e1, e2, bits_xor_u64_nat _ _ (by have := Kot h1 h2; omega) (by decide), Nat.xor_zero]
 ·have e1 : ((v * 2 + 9223372036854775808) % 18446744073709551616 - 9223372036854775808) % 18446744073709551616 = ((18446744073709551615 - zig v : Nat) : Int) := by unfold zig; rw [if_neg h]; omega
  have e2 : v / 9223372036854775808 % 18446744073709551616 = ((18446744073709551615 : Nat) : Int) := by omega
  rw [e1, e2, bits_xor_u64_nat _ _ (by omega) (by decide), Kny (by omega)]; have := Kot h1 h2; omega
theorem Qbt (v : Nat) : bits .and .u64 (v : Int) 1 = ((v % 2 : Nat) : Int) := by
 unfold bits; simp only [BitVec.ofInt_natCast]; have e : (BitVec.ofInt 64 1 : BitVec 64) = BitVec.ofNat 64 1 := rfl; show IntKind.u64.wrap (((BitVec.ofNat 64 v &&& BitVec.ofInt 64 1).toNat : Nat) : Int) = _
 rw [e, BitVec.toNat_and, BitVec.toNat_ofNat, BitVec.toNat_ofNat]
 have h1 : (v % 2 ^ 64) &&& (1 % 2 ^ 64) = v % 2 := by
  rw [show (1 % 2 ^ 64 : Nat) = 2 ^ 1 - 1 by decide, Nat.and_two_pow_sub_one_eq_mod]; omega
 rw [h1, IntKind.wrap_u64]; omega
theorem Ktl (a b : Int) : bits .xor .i64 a b = IntKind.i64.wrap (((BitVec.ofInt 64 a ^^^ BitVec.ofInt 64 b).toNat : Nat) : Int) := rfl
theorem Kyl {v : Nat} (h : v < 18446744073709551616) :
  bits .xor .i64 (wrap64 ((v : Int) / 2)) (wrap64 (-wrap64 (bits .and .u64 (v : Int) 1))) = unzig v := by
 rw [Qbt, Ktl]; unfold wrap64; have e1 : ((v : Int) / 2 + 9223372036854775808) % 18446744073709551616 - 9223372036854775808 = ((v / 2 : Nat) : Int) := by omega
 rw [e1]; rcases Nat.mod_two_eq_zero_or_one v with h2 | h2
 ·have e2 : (-((((v % 2 : Nat) : Int) + 9223372036854775808) % 18446744073709551616 - 9223372036854775808) + 9223372036854775808) % 18446744073709551616 - 9223372036854775808 = ((0 : Nat) : Int) := by omega
  rw [e2, BitVec.ofInt_natCast, BitVec.ofInt_natCast, BitVec.toNat_xor, BitVec.toNat_ofNat, BitVec.toNat_ofNat, Nat.zero_mod, Nat.xor_zero, IntKind.wrap_i64]; unfold unzig; rw [if_pos h2]; omega
 ·have e2 : (-((((v % 2 : Nat) : Int) + 9223372036854775808) % 18446744073709551616 - 9223372036854775808) + 9223372036854775808) % 18446744073709551616 - 9223372036854775808 = -1 := by omega
  have e3 : (BitVec.ofInt 64 (-1) : BitVec 64) = BitVec.ofNat 64 18446744073709551615 := rfl; rw [e2, e3, BitVec.ofInt_natCast, BitVec.toNat_xor, BitVec.toNat_ofNat, BitVec.toNat_ofNat]; have e4 : (v / 2) % 2 ^ 64 = v / 2 := by omega
  have e5 : (18446744073709551615 : Nat) % 2 ^ 64 = 18446744073709551615 := by decide
  rw [e4, e5, Kny (by omega), IntKind.wrap_i64]; unfold unzig; rw [if_neg (by omega)]; omega
theorem Qdh {s : List UInt8} {k : Int} {v n e : Nat} (h : Kan s k = (v, n, e)) : v < 18446744073709551616 := by
 unfold Kan at h
 split at h
 ·injection h with h1 h2; omega
 ·split at h
  ·injection h with h1 h2; omega
  ·rename_i v' n' hr
   injection h with h1 h2; have := (Kdm hr).1; omega
theorem Kml (n : Int) (h0 : 0 ≤ n) (h1 : n < 2 ^ 32) : IntKind.u32.wrap n = n := by
 rw [IntKind.wrap_u32]; omega
theorem Kye {a b : Nat} (ha : a < 4294967296) (hb : b < 4294967296) : bits .and .u32 (a : Int) (b : Int) = ((a &&& b : Nat) : Int) := (bits_nat .u32 32 (by decide) Kml a b ha hb).1
theorem Ktb {a b : Nat} (ha : a < 4294967296) (hb : b < 4294967296) : bits .or .u32 (a : Int) (b : Int) = ((a ||| b : Nat) : Int) := (bits_nat .u32 32 (by decide) Kml a b ha hb).2
theorem Kpi {a b : Nat} (ha : a < 4294967296) (hb : b < 4294967296) : bits .xor .u32 (a : Int) (b : Int) = ((a ^^^ b : Nat) : Int) := by
 have h : bits .xor .u32 (a : Int) (b : Int) = IntKind.u32.wrap (((BitVec.ofInt 32 (a : Int) ^^^ BitVec.ofInt 32 (b : Int)).toNat : Nat) : Int) := rfl; rw [h, BitVec.ofInt_natCast, BitVec.ofInt_natCast, BitVec.toNat_xor, BitVec.toNat_ofNat, BitVec.toNat_ofNat, Nat.mod_eq_of_lt (show a < 2 ^ 32 by omega), Nat.mod_eq_of_lt (show b < 2 ^ 32 by omega)]; exact Kml _ (Int.natCast_nonneg _) (by have := Khd ha hb; omega)
theorem Kfx {k x : Nat} (y : Nat) (h : x < 2 ^ k) : (y * 2 ^ k) ||| x = y * 2 ^ k + x := by
 have := Nat.shiftLeft_add_eq_or_of_lt h y; rw [Nat.shiftLeft_eq] at this; exact this.symm
theorem Qfh {x1 x0 y1 y0 : Nat} (hx : x0 < 65536) (hy : y0 < 65536) : (x1 * 65536 + x0) ||| (y1 * 65536 + y0) = (x1 ||| y1) * 65536 + (x0 ||| y0) := by
 have e1 := Kfx (k := 16) x1 (show x0 < 2 ^ 16 from hx); have e2 := Kfx (k := 16) y1 (show y0 < 2 ^ 16 from hy); have e3 := Kfx (k := 16) (x1 ||| y1) (Nat.or_lt_two_pow (show x0 < 2 ^ 16 from hx) (show y0 < 2 ^ 16 from hy))
 have e4 : (x1 ||| y1) * 2 ^ 16 = x1 * 2 ^ 16 ||| y1 * 2 ^ 16 := by
  rw [← Nat.shiftLeft_eq, ← Nat.shiftLeft_eq, ← Nat.shiftLeft_eq, Nat.shiftLeft_or_distrib]
 have e16 : (65536 : Nat) = 2 ^ 16 := by decide
 rw [e16, ← e1, ← e2, ← e3, e4, Nat.or_assoc, Nat.or_assoc]; congr 1; rw [← Nat.or_assoc, ← Nat.or_assoc, Nat.or_comm x0]
theorem Kha (v : Nat) : v &&& 16711935 = v / 65536 % 256 * 65536 + v % 256 := by
 have h1 : (16711935 : Nat) = 255 <<< 16 ||| 255 := by decide
 have h2 : v &&& 255 = v % 256 := Nat.and_two_pow_sub_one_eq_mod v 8
 have h3 : v &&& (255 <<< 16) = ((v >>> 16) &&& 255) <<< 16 := by
  apply Nat.eq_of_testBit_eq; intro i; simp only [Nat.testBit_and, Nat.testBit_shiftLeft, Nat.testBit_shiftRight]
  by_cases h : 16 ≤ i
  ·simp [h, Nat.add_sub_cancel' h]
  ·simp [h]
 have h4 : (v >>> 16) &&& 255 = v / 65536 % 256 := by
  rw [Nat.shiftRight_eq_div_pow]; exact Nat.and_two_pow_sub_one_eq_mod _ 8
 rw [h1, Nat.and_or_distrib_left, h2, h3, h4, Nat.shiftLeft_eq]; exact Kfx (k := 16) _ (by omega)
def revN (v : Nat) : Nat := v % 256 * 16777216 + v / 256 % 256 * 65536 + v / 65536 % 256 * 256 + v / 16777216
theorem Qfv {v : Nat} (hv : v < 4294967296) : ((v / 256) &&& 16711935) ||| ((v &&& 16711935) * 256) = (v / 65536 % 256 * 256 + v / 16777216) * 65536 + (v % 256 * 256 + v / 256 % 256) := by
 rw [Kha, Kha]; have e1 : (v / 65536 % 256 * 65536 + v % 256) * 256 = (v / 65536 % 256 * 256) * 65536 + v % 256 * 256 := by omega
 have e2 : v / 256 / 65536 % 256 = v / 16777216 := by omega
 rw [e1, e2, Qfh (by omega) (by omega)]; have e3 := Kfx (k := 8) (v / 65536 % 256) (show v / 16777216 < 2 ^ 8 by omega); have e4 := Kfx (k := 8) (v % 256) (show v / 256 % 256 < 2 ^ 8 by omega); have e8 : (2 : Nat) ^ 8 = 256 := by decide
 rw [e8] at e3 e4; rw [Nat.or_comm (v / 16777216), Nat.or_comm (v / 256 % 256), e3, e4]
set_option maxHeartbeats 400000 in
theorem Kqm (v : Int) (h1 : -9223372036854775808 ≤ v) (h2 : v ≤ 9223372036854775807) (w : World) :
  Calls Tryz.prog 46 #[.int .i64 v] w fun e w' => e = .returned (.string ⟨(intT v).toArray⟩) ∧ Below w.heap.size w w' := by
 have HU := Jh (fun w => Kax (zig v) (Kot h1 h2) w); go_enter Tryz.func46, Tryz.ntmps46
 go_wp2_with fail
 rw [Qfn h1 h2]; refine (HU.out w).mono ?_; rintro _ w1 ⟨rfl, hb⟩; go_wp2_with fail
 go_ret
 exact ⟨rfl, hb⟩
set_option maxHeartbeats 400000 in
theorem Kjg (s : ByteArray) (k : Int) (v n e : Nat) (hr : Kan s.data.toList k = (v, n, e)) (hs : s.size ≤ 140737488351232) (w : World) :
  Calls Tryz.prog 80 #[.string s, .int .i64 k] w fun en w' => en = .returned (.tuple #[.int .i64 (if e = 0 then unzig v else 0), .int .i64 (if e = 0 then (n : Int) else 0), .int .i64 e]) ∧ w = w' := by
 have HR := Jh (Kam s k v n e hr hs w); go_enter Tryz.func80, Tryz.ntmps80
 go_wp2_with fail
 refine HR.out.mono ?_; rintro _ w1 ⟨rfl, rfl⟩
 cases e with
 | succ e =>
  go_wp2_with fail
  go_ret3
  exact ⟨by simp, rfl⟩
 | zero =>
  go_wp2_with fail
  rw [Kyl (by have := Qdh hr; omega)]; go_ret3
  exact ⟨rfl, rfl⟩
theorem Qff {v : Nat} (hv : v < 4294967296) : bits .or .u32 (bits .and .u32 ((v : Int) / 256) 16711935) (bits .and .u32 (v : Int) 16711935 * 256 % 4294967296) = (((v / 65536 % 256 * 256 + v / 16777216) * 65536 + (v % 256 * 256 + v / 256 % 256) : Nat) : Int) := by
 have e1 : (v : Int) / 256 = ((v / 256 : Nat) : Int) := by omega
 have e2 : ∀ x : Nat, x < 4294967296 → bits .and .u32 (x : Int) 16711935 = ((x &&& 16711935 : Nat) : Int) := fun x hx => Kye hx (by decide)
 have e3 : ((v &&& 16711935 : Nat) : Int) * 256 % 4294967296 = (((v &&& 16711935) * 256 : Nat) : Int) := by rw [Kha]; omega
 rw [e1, e2 _ (by omega), e2 _ hv, e3, Ktb (by rw [Kha]; omega) (by rw [Kha]; omega), Qfv hv]
theorem Qfm {v : Nat} (hv : v < 4294967296) {T : Int} (hT : T = (((v / 65536 % 256 * 256 + v / 16777216) * 65536 + (v % 256 * 256 + v / 256 % 256) : Nat) : Int)) :
  bits .or .u32 (T / 65536) (T * 65536 % 4294967296) = ((revN v : Nat) : Int) := by
 subst hT; have e1 : (((v / 65536 % 256 * 256 + v / 16777216) * 65536 + (v % 256 * 256 + v / 256 % 256) : Nat) : Int) / 65536 = ((v / 65536 % 256 * 256 + v / 16777216 : Nat) : Int) := by omega
 have e2 : (((v / 65536 % 256 * 256 + v / 16777216) * 65536 + (v % 256 * 256 + v / 256 % 256) : Nat) : Int) * 65536 % 4294967296 = (((v % 256 * 256 + v / 256 % 256) * 65536 : Nat) : Int) := by omega
 rw [e1, e2, Ktb (by omega) (by omega), Nat.or_comm]; have e3 := Kfx (k := 16) (v % 256 * 256 + v / 256 % 256) (show v / 65536 % 256 * 256 + v / 16777216 < 2 ^ 16 by omega); have e16 : (2 : Nat) ^ 16 = 65536 := by decide
 rw [e16] at e3; rw [e3]; unfold revN; omega
set_option maxHeartbeats 400000 in
theorem Qcw (v : Nat) (hv : v < 4294967296) (w : World) :
  Calls Tryz.prog 175 #[.int .u32 v] w fun e w' => e = .returned (.int .u32 (revN v : Nat)) ∧ w = w' := by
 go_enter Tryz.func175, Tryz.ntmps175
 go_wp2_with fail
 rw [Qfm hv (Qff hv)]; go_ret
 exact ⟨rfl, rfl⟩
theorem Qab (a b c d : UInt8) (g : Nat) (w : World) (h0 : w.cell? ⟨g, 0, none⟩ = some (.int .u8 (a.toNat : Int))) (h1 : w.cell? ⟨g, 1, none⟩ = some (.int .u8 (b.toNat : Int))) (h2 : w.cell? ⟨g, 2, none⟩ = some (.int .u8 (c.toNat : Int))) (h3 : w.cell? ⟨g, 3, none⟩ = some (.int .u8 (d.toNat : Int))) :
  (convert 76 9 (.slice (some ⟨g, 0, none⟩) 4 4)).run Tryz.prog w = .ok (.string ⟨#[a, b, c, d]⟩) w :=
 run_convert_bytes_back w _ _ 5 ⟨g, 0, none⟩ 4 [a, b, c, d] Tryz.underlying76 Tryz.underlying5 Tryz.underlying9 (fun j hj => by
  match j, hj with
  | 0, _ => exact h0
  | 1, _ => exact h1
  | 2, _ => exact h2
  | 3, _ => exact h3
  | _ + 4, hj => simp at hj; omega)
theorem Qba {a b c d r : Nat} (ha : a < 256) (hb : b < 256) (hc : c < 256) (hd : d < 256) (hr : a * 16777216 + b * 65536 + c * 256 + d = r) :
  (r : Int) / 16777216 = (a : Int) ∧ (r : Int) / 65536 % 256 = (b : Int) ∧ (r : Int) / 256 % 256 = (c : Int) ∧ (r : Int) % 256 = (d : Int) := by
 subst hr; refine ⟨?_, ?_, ?_, ?_⟩ <;> omega
set_option maxRecDepth 100000 in
set_option maxHeartbeats 400000 in
theorem Kzs (v : Nat) (hv : v < 4294967296) (w : World) :
  Calls Tryz.prog 122 #[.int .u32 v] w fun e w' => e = .returned (.string ⟨(fourT v).toArray⟩) ∧ Below w.heap.size w w' := by
 have HR := Jh (Qcw v hv w); obtain ⟨r, hr⟩ : ∃ r, revN v = r := ⟨_, rfl⟩; rw [hr] at HR; have hr2 : r < 4294967296 := by rw [← hr]; unfold revN; omega
 obtain ⟨b0, h0⟩ : ∃ b, UInt8.ofNat v = b := ⟨_, rfl⟩; obtain ⟨b1, h1⟩ : ∃ b, UInt8.ofNat (v / 256) = b := ⟨_, rfl⟩; obtain ⟨b2, h2⟩ : ∃ b, UInt8.ofNat (v / 65536) = b := ⟨_, rfl⟩; obtain ⟨b3, h3⟩ : ∃ b, UInt8.ofNat (v / 16777216) = b := ⟨_, rfl⟩; obtain ⟨p0, p1, p2, p3⟩ := Qba (a := v % 256) (b := v / 256 % 256) (c := v / 65536 % 256) (d := v / 16777216) (by omega) (by omega) (by omega) (by omega) hr; have k0 : (r : Int) / 16777216 = (b0.toNat : Int) := by rw [p0, ← h0, UInt8.toNat_ofNat']
 have k1 : (r : Int) / 65536 % 256 = (b1.toNat : Int) := by rw [p1, ← h1, UInt8.toNat_ofNat']
 have k2 : (r : Int) / 256 % 256 = (b2.toNat : Int) := by rw [p2, ← h2, UInt8.toNat_ofNat']
 have k3 : (r : Int) % 256 = (b3.toNat : Int) := by rw [p3, ← h3, UInt8.toNat_ofNat']; omega
 have hcv := Qab b0 b1 b2 b3 w.heap.size (w.alloc (.cells #[.int .u8 ((r : Int) / 16777216), .int .u8 ((r : Int) / 65536 % 256), .int .u8 ((r : Int) / 256 % 256), .int .u8 ((r : Int) % 256)] 5)) (by rw [k0]; simp [go_sem]) (by rw [k1]; simp [go_sem]) (by rw [k2]; simp [go_sem]) (by rw [k3]; simp [go_sem]); have hb : Below w.heap.size w (w.alloc (.cells #[.int .u8 ((r : Int) / 16777216), .int .u8 ((r : Int) / 65536 % 256), .int .u8 ((r : Int) / 256 % 256), .int .u8 ((r : Int) % 256)] 5)) := (Below.refl _ _).alloc (Nat.le_refl _) _; have hfin : (⟨#[b0, b1, b2, b3]⟩ : ByteArray) = ⟨(fourT v).toArray⟩ := by rw [← h0, ← h1, ← h2, ← h3]; rfl
 have HFIN := Jh hfin; have HB := Jh hb; clear k0 k1 k2 k3 h0 h1 h2 h3 hr hfin hb p0 p1 p2 p3; go_enter Tryz.func122, Tryz.ntmps122
 go_wp2_with fail
 refine HR.out.mono ?_; rintro _ w1 ⟨rfl, rfl⟩; go_wp2_with fail
 go_ret
 exact ⟨by first | rfl | (rw [HFIN.out]; rfl), HB.out⟩
def Kca (w : World) : Prop := ∀ i, i < 16 → w.cell? ⟨0, i, none⟩ = some (.int .u32 (nibs.getD i 0 : Nat))
theorem Kca.below {B : Nat} {w w' : World} (h : Kca w) (hB : 0 < B) (hb : Below B w w') : Kca w' := fun i hi => (hb.cell (p := ⟨0, i, none⟩) hB).trans (h i hi)
theorem and15 {c : Nat} (h : c < 4294967296) : bits .and .u32 (c : Int) 15 = ((c % 16 : Nat) : Int) := by
 have h1 : bits .and .u32 (c : Int) 15 = ((c &&& 15 : Nat) : Int) := Kye h (by decide); rw [h1]; congr 1; exact Nat.and_two_pow_sub_one_eq_mod c 4
theorem Kxu {c : Nat} (h : c < 4294967296) : bits .xor .u32 ((nibs.getD (c % 16) 0 : Nat) : Int) ((c : Int) / 16) = ((nibN c : Nat) : Int) := by
 have e1 : (c : Int) / 16 = ((c / 16 : Nat) : Int) := by omega
 rw [e1, Kpi (Kxv _) (by omega)]; rfl
set_option maxRecDepth 100000 in
set_option maxHeartbeats 2000000 in
theorem Qcv (Ao : Option Addr) (n c : Nat) (l : List Txt) (w : World) (h : Strs w Ao n l) (hn : n ≤ 140737488355328) (hs : ∀ s ∈ l, s.length ≤ 140737488355328) (hT : Kca w) :
  Calls Tryz.prog 123 #[.slice Ao n c] w fun e w' => e = .returned (.int .u32 (crcL l.flatten : Nat)) ∧ w = w' := by
 have hln := h.len; have HS := Jh hs; have HH := Jh h; have HT := Jh hT; clear hs h hT; go_enter Tryz.func123, Tryz.ntmps123
 go_wp2_with fail
 go_loopg [3, 9] n (fun g s3 s9 wr => ∃ i c : Nat, i + g = n ∧ s9 = .int .i64 (i : Int) ∧ s3 = .int .u32 (c : Int) ∧ c < 4294967296 ∧ crcF 4294967295 (l.take i).flatten = c ∧ wr = w)
 case atStart => exact ⟨0, 4294967295, by omega, rfl, rfl, by decide, rfl, rfl⟩
 case round =>
  obtain ⟨i, c, hig, rfl, rfl, hc, hcr, rfl⟩ := hrel; have HIG := Jh hig; have HCR := Jh hcr; clear hig hcr
  by_cases hi : i < n
  ·have el : decide ((i : Int) < (n : Int)) = true := by simp; omega
   have el' : decide (i < n) = true := by simp; omega
   have hiin : (i : Int) < (n : Int) := by omega
   obtain ⟨b, off, hXe, hbl, x0⟩ := HH.out.at_ hi; subst hXe; have hil : i < l.length := by omega
   obtain ⟨T, hT⟩ : ∃ T : ByteArray, (⟨l[i]!.toArray⟩ : ByteArray) = T := ⟨_, rfl⟩; have hTl : T.data.toList = l[i]! := by rw [← hT]
   have hTs : T.size ≤ 140737488355328 := by
    have := HS.out l[i]! (by rw [getElem!_pos l i hil]; exact List.getElem_mem _); rw [← hTl, Kaf] at this; exact this
   unfold txtV at x0; rw [hT] at x0; have hft := Qda hil; rw [← hTl] at hft; have HFT := Jh hft; obtain ⟨og, rfl⟩ : ∃ x, x = gk := ⟨_, rfl⟩; clear hft hT hTl; go_wp2_with fail
   go_loopg [3, 15] T.size (fun g s3 s15 wr2 => ∃ j c : Nat, j + g = T.size ∧ s15 = .int .i64 (j : Int) ∧ s3 = .int .u32 (c : Int) ∧ c < 4294967296 ∧ crcF 4294967295 ((l.take i).flatten ++ T.data.toList.take j) = c ∧ wr2 = wr)
   case atStart => exact ⟨0, c, by omega, rfl, rfl, hc, by rw [List.take_zero, List.append_nil]; exact HCR.out, rfl⟩
   case round =>
    obtain ⟨j, c', hjg, rfl, rfl, hc', hcr', rfl⟩ := hrel; have HJG := Jh hjg; have HCR2 := Jh hcr'; clear hjg hcr'
    by_cases hj : j < T.size
    ·have fl : decide ((j : Int) < (T.size : Int)) = true := by simp; omega
     have fl' : decide (j < T.size) = true := by simp; omega
     have hjin : (j : Int) < (T.size : Int) := by omega
     have hbt := UInt8.toNat_lt T[j]; obtain ⟨c0, hc0⟩ : ∃ x, c' ^^^ T[j].toNat = x := ⟨_, rfl⟩; have hx0 : bits .xor .u32 (c' : Int) (T[j].toNat : Int) = (c0 : Int) := by rw [← hc0]; exact Kpi hc' (by omega)
     have hl0 : c0 < 4294967296 := by rw [← hc0]; exact Khd hc' (by omega)
     obtain ⟨i0, hi0⟩ : ∃ x, c0 % 16 = x := ⟨_, rfl⟩; have ha0 : bits .and .u32 (c0 : Int) 15 = (i0 : Int) := by rw [← hi0]; exact and15 hl0
     have hi16 : i0 < 16 := by omega
     obtain ⟨n0, hn0⟩ : ∃ x, nibs.getD i0 0 = x := ⟨_, rfl⟩; have hm0 := HT.out i0 hi16; rw [hn0] at hm0; obtain ⟨c1, hc1⟩ : ∃ x, nibN c0 = x := ⟨_, rfl⟩; have hy0 : bits .xor .u32 (n0 : Int) ((c0 : Int) / 16) = (c1 : Int) := by rw [← hn0, ← hi0, ← hc1]; exact Kxu hl0
     have hl1 : c1 < 4294967296 := by rw [← hc1]; exact Klf hl0
     obtain ⟨i1, hi1⟩ : ∃ x, c1 % 16 = x := ⟨_, rfl⟩; have ha1 : bits .and .u32 (c1 : Int) 15 = (i1 : Int) := by rw [← hi1]; exact and15 hl1
     have hi17 : i1 < 16 := by omega
     obtain ⟨n1, hn1⟩ : ∃ x, nibs.getD i1 0 = x := ⟨_, rfl⟩; have hm1 := HT.out i1 hi17; rw [hn1] at hm1; obtain ⟨c2, hc2⟩ : ∃ x, nibN c1 = x := ⟨_, rfl⟩; have hy1 : bits .xor .u32 (n1 : Int) ((c1 : Int) / 16) = (c2 : Int) := by rw [← hn1, ← hi1, ← hc2]; exact Kxu hl1
     have hl2 : c2 < 4294967296 := by rw [← hc2]; exact Klf hl1
     have hnext : crcF 4294967295 ((l.take i).flatten ++ T.data.toList.take (j + 1)) = c2 := by
      have e : T.data.toList.take (j + 1) = T.data.toList.take j ++ [T[j]] := by
       rw [List.take_add_one, List.getElem?_eq_getElem (by simpa using hj)]; simp [ByteArray.getElem_eq_getElem_data]
      rw [e, ← List.append_assoc, Qdb, HCR2.out, ← hc2, ← hc1, ← hc0]; rfl
     have HNX := Jh hnext; clear hnext hc0 hc1 hc2 hn0 hn1 hi0 hi1; go_wp2_with fail
     go_roundg (gk - 1)
     case measure => have := HJG.out; omega
     case rel => exact ⟨j + 1, c2, by have := HJG.out; omega, by go_num, rfl, hl2, HNX.out, rfl⟩
    ·have fl : decide ((j : Int) < (T.size : Int)) = false := by simp; omega
     have fl' : decide (j < T.size) = false := by simp; omega
     have hfull : crcF 4294967295 (l.take (i + 1)).flatten = c' := by
      have := HCR2.out; have e : T.data.toList.take j = T.data.toList := List.take_of_length_le (by rw [Kaf]; omega); rw [e, ← HFT.out] at this; exact this
     have HF := Jh hfull; clear hfull; go_wp2_with fail
     go_roundg (og - 1)
     case measure => have := HIG.out; omega
     case rel => exact ⟨i + 1, c', by have := HIG.out; omega, by go_num, rfl, hc', HF.out, rfl⟩
  ·have el : decide ((i : Int) < (n : Int)) = false := by simp; omega
   have el' : decide (i < n) = false := by simp; omega
   have hend : bits .xor .u32 IntKind.u32.max (c : Int) = ((crcL l.flatten : Nat) : Int) := by
    have h1 : bits .xor .u32 IntKind.u32.max (c : Int) = ((4294967295 ^^^ c : Nat) : Int) := Kpi (a := 4294967295) (by decide) hc; have h2 := HCR.out; rw [List.take_of_length_le (by omega)] at h2; rw [h1]; unfold crcL; rw [h2, Nat.xor_comm]
   go_wp2_with fail
   go_ret
   exact ⟨rfl, rfl⟩
def leV : List UInt8 → Nat
 | [] => 0
 | b :: l => b.toNat + 256 * leV l
theorem Qhd {l : List UInt8} (h : 4 ≤ l.length) : leV (l.take 4) = numT l := by
 match l, h with
 | a :: b :: c :: d :: r, _ =>
  simp only [List.take_succ_cons, List.take_zero, leV, numT]; omega
theorem Qbh : ∀ l : List UInt8, leV l < 256 ^ l.length
 | [] => by simp [leV]
 | b :: l => by
  have := Qbh l; have := UInt8.toNat_lt b; rw [leV, List.length_cons, Nat.pow_succ]; omega
theorem Qhc {v b : Nat} (hv : v < 16777216) (hb : b < 256) : bits .or .u32 ((v : Int) * 256) (b : Int) = ((b + 256 * v : Nat) : Int) := by
 have e1 : (v : Int) * 256 = ((v * 256 : Nat) : Int) := by omega
 rw [e1, Ktb (by omega) (by omega)]; have e3 := Kfx (k := 8) v (show b < 2 ^ 8 from hb); have e8 : (2 : Nat) ^ 8 = 256 := by decide
 rw [e8] at e3; rw [e3]; congr 1; omega
set_option maxRecDepth 100000 in
set_option maxHeartbeats 1000000 in
theorem Kvf (s : ByteArray) (hs : 4 ≤ s.size) (hz : s.size ≤ 140737488355328) (w : World) :
  Calls Tryz.prog 185 #[.string s] w fun e w' => e = .returned (.int .u32 (numT s.data.toList : Nat)) ∧ w = w' := by
 have hfin := Qhd (l := s.data.toList) (by rw [Kaf]; exact hs); have HFIN := Jh hfin; clear hfin; have hl4 : (s.data.toList.take 4).length = 4 := by rw [List.length_take, Kaf]; omega
 go_enter Tryz.func185, Tryz.ntmps185
 go_wp2_with fail
 go_loopg [3, 4] 4 (fun g s3 s4 wr => ∃ v : Nat, g ≤ 4 ∧ s4 = .int .i64 ((g : Int) - 1) ∧ s3 = .int .u32 (v : Int) ∧ leV ((s.data.toList.take 4).drop g) = v ∧ wr = w)
 case atStart => exact ⟨0, by omega, rfl, rfl, by rw [List.drop_of_length_le (by omega)]; rfl, rfl⟩
 case round =>
  obtain ⟨v, hg4, rfl, rfl, hv, rfl⟩ := hrel; have hvl := Qbh ((s.data.toList.take 4).drop gk); rw [hv, List.length_drop, hl4] at hvl
  by_cases hg : 0 < gk
  ·obtain ⟨j, rfl⟩ : ∃ j, gk = j + 1 := ⟨gk - 1, by omega⟩; have ej : ((j + 1 : Nat) : Int) - 1 = (j : Int) := by omega
   rw [ej]; have el : decide ((0 : Int) ≤ (j : Int)) = true := by simp
   have hj : j < s.size := by omega
   have hbt := UInt8.toNat_lt s[j]
   have hv24 : v < 16777216 := by
    refine Nat.lt_of_lt_of_le hvl ?_; have : 256 ^ (4 - (j + 1)) ≤ 256 ^ 3 := Nat.pow_le_pow_right (by decide) (by omega); exact this
   have hor := Qhc hv24 hbt
   have hn : leV ((s.data.toList.take 4).drop j) = s[j].toNat + 256 * v := by
    have hjl : j < (s.data.toList.take 4).length := by omega
    rw [List.drop_eq_getElem_cons hjl, leV, hv]; congr 2; rw [List.getElem_take]; simp [ByteArray.getElem_eq_getElem_data]
   have HN := Jh hn; clear hn hv hvl; go_wp2_with fail
   go_roundg j
   case measure => omega
   case rel => exact ⟨_, by omega, by go_num, rfl, HN.out, rfl⟩
  ·obtain rfl : gk = 0 := by omega
   have el : decide ((0 : Int) ≤ ((0 : Nat) : Int) - 1) = false := by simp
   rw [List.drop_zero, HFIN.out] at hv; subst hv; go_wp2_with fail
   go_ret
   exact ⟨rfl, rfl⟩
theorem Qgl {w : World} {b : Nat} {l : List Txt} (h : Blk w b 9 (l.map txtV).toArray) : Strs w (some ⟨b, 0, none⟩) l.length l :=
 ⟨rfl, fun _ => ⟨b, 0, rfl, h.lt, fun i x hx j v hv => by
  match j, hv with
  | 0, hv =>
   injection hv with hv; subst hv; have h1 := h.cell i; have h2 : (l.map txtV).toArray[i]? = some (txtV x) := by simp [hx]
   simpa [h2] using h1
  | j + 1, hv => simp [enc1] at hv⟩⟩
theorem Qef {a b : ByteArray} (h : a.data.toList = b.data.toList) : a = b := by
 cases a; cases b
 simp at h; rw [h]
theorem Kzx (s : ByteArray) (k : Nat) : (s.extract 0 k).data.toList = s.data.toList.take k := by
 simp only [ByteArray.data_extract, Array.toList_extract]; simp
theorem Kzq (s : ByteArray) (k : Nat) : (s.extract k s.size).data.toList = s.data.toList.drop k := by
 simp only [ByteArray.data_extract, Array.toList_extract]; rw [← Kaf, List.extract_eq_take_drop, List.take_of_length_le]; simp
theorem Kca.lt {w : World} (h : Kca w) : 0 < w.heap.size := Kdg (h 0 (by decide))
theorem Qem {w : World} {b : Nat} {S : ByteArray} (h : Blk w b 9 #[.string S]) : Strs w (some ⟨b, 0, none⟩) 1 [S.data.toList] := Qgl (by unfold txtV; exact h)
theorem Kyg {w : World} {b c : Nat} {S : ByteArray} (h : Blk w b 9 #[.string S]) (hS : S.size ≤ 140737488355328) (hT : Kca w) :
  Calls Tryz.prog 123 #[.slice (some ⟨b, 0, none⟩) 1 c] w fun e w' => e = .returned (.int .u32 (crcL S.data.toList : Nat)) ∧ w = w' := by
 have h1 := Qcv (some ⟨b, 0, none⟩) 1 c [S.data.toList] w (Qem h) (by decide) (fun s hs => by rw [List.mem_singleton.1 hs, Kaf]; exact hS) hT; have e : [S.data.toList].flatten = S.data.toList := by simp
 rw [e] at h1; exact h1
set_option maxRecDepth 100000 in
set_option maxHeartbeats 1000000 in
theorem Qaa (s : ByteArray) (hs : s.size ≤ 140737488351232) (w : World) (hT : Kca w) :
  Calls Tryz.prog 47 #[.string s] w fun e w' => e = .returned (.string ⟨(sealT s.data.toList).toArray⟩) ∧ Below w.heap.size w w' := by
 obtain ⟨w1, hw1⟩ : ∃ x, w.alloc (.cells #[.string s] 9) = x := ⟨_, rfl⟩; have hb1 : Below w.heap.size w w1 := by rw [← hw1]; exact (Below.refl _ _).alloc (Nat.le_refl _) _
 have hk1 : Blk w1 w.heap.size 9 #[.string s] := by rw [← hw1]; exact Blk.new _ _ _
 have HC := Jh (Kyg (c := 1) hk1 (by omega) (hT.below hT.lt hb1)); have HF := Jh (fun w => Kzs (crcL s.data.toList) (Kxl _) w); have HW := Jh hw1; obtain ⟨F, hF⟩ : ∃ F : ByteArray, (⟨(fourT (crcL s.data.toList)).toArray⟩ : ByteArray) = F := ⟨_, rfl⟩; have hF4 : F.size = 4 := by rw [← hF]; rfl
 have hfin : s ++ F = (⟨(sealT s.data.toList).toArray⟩ : ByteArray) := Qef (by rw [← hF]; simp [sealT, ByteArray.data_append]); rw [hF] at HF; have HFIN := Jh hfin; clear hw1 hk1 hfin hF; go_enter Tryz.func47, Tryz.ntmps47
 go_wp2_with fail
 rw [HW.out]; refine HC.out.mono ?_; rintro _ w2 ⟨rfl, rfl⟩; go_wp2_with fail
 refine (HF.out w1).mono ?_; rintro _ w2 ⟨rfl, hb2⟩; go_wp2_with fail
 rw [HFIN.out]; go_ret
 exact ⟨rfl, then_ hb1 hb2⟩
set_option maxRecDepth 100000 in
set_option maxHeartbeats 1000000 in
theorem Kkb (s : ByteArray) (hs : s.size ≤ 140737488351232) (w : World) (hT : Kca w) :
  Calls Tryz.prog 146 #[.string s] w fun e w' => e = .returned (match Kau s.data.toList with | .ok b => .tuple #[.string ⟨b.toArray⟩, .int .i64 0] | .error c => .tuple #[.string ⟨#[]⟩, .int .i64 (c : Int)]) ∧ Below w.heap.size w w' := by
 obtain ⟨n, hn⟩ : ∃ n, s.size = n := ⟨_, rfl⟩; have HN := Jh hn
 by_cases h4 : n < 4
 ·have d1 : decide ((n : Int) - 4 < 0) = true := by simp; omega
  have hu : Kau s.data.toList = .error 20 := by unfold Kau; rw [if_pos (by rw [Kaf]; omega)]
  rw [hu]; clear hu; go_enter Tryz.func146, Tryz.ntmps146
  go_wp2_with fail
  go_ret2
  exact ⟨rfl, Below.refl _ _⟩
 ·obtain ⟨m, rfl⟩ : ∃ m, n = m + 4 := ⟨n - 4, by omega⟩; have ej : ((m + 4 : Nat) : Int) - 4 = (m : Int) := by omega
  have d1 : decide ((m : Int) < 0) = false := by simp
  obtain ⟨X, hX⟩ : ∃ X, s.extract 0 m = X := ⟨_, rfl⟩; obtain ⟨Y, hY⟩ : ∃ Y, s.extract m (m + 4) = Y := ⟨_, rfl⟩; have hXl : X.data.toList = s.data.toList.take m := by rw [← hX]; exact Kzx s m
  have hYl : Y.data.toList = s.data.toList.drop m := by rw [← hY, ← hn]; exact Kzq s m
  have hXs : X.size = m := by rw [← Kaf, hXl, List.length_take, Kaf]; omega
  have hYs : Y.size = 4 := by rw [← Kaf, hYl, List.length_drop, Kaf]; omega
  have hu : Kau s.data.toList = if crcL X.data.toList = numT Y.data.toList then .ok X.data.toList else .error 22 := by
   unfold Kau; rw [Kaf, hn, if_neg (by omega), show m + 4 - 4 = m by omega, ← hXl, ← hYl]
  have HU := Jh hu; have HM := Jh (fun w' => Kvf Y (by omega) (by omega) w'); have hb1 : Below w.heap.size w (w.alloc (.cells #[.string X] 9)).drew := ((Below.refl _ _).alloc (Nat.le_refl _) _).drew; have hk1 : Blk (w.alloc (.cells #[.string X] 9)).drew w.heap.size 9 #[.string X] := Blk.new _ _ _; have HC := Jh (Kyg (c := 1) hk1 (by omega) (hT.below hT.lt hb1)); have HB := Jh hb1; clear hk1; have HX := Jh hX; have HY := Jh hY; obtain ⟨c1, hc1⟩ : ∃ c, crcL X.data.toList = c := ⟨_, rfl⟩; obtain ⟨c2, hc2⟩ : ∃ c, numT Y.data.toList = c := ⟨_, rfl⟩; rw [hc1] at HC; rw [hc2] at HM; rw [hc1, hc2] at HU; rw [hu, hc1, hc2]; clear hb1 hu hc1 hc2 hXl hYl; go_enter Tryz.func146, Tryz.ntmps146
  have b0 : (0 : Int) ≤ (m : Int) := by omega
  have b1 : (m : Int) ≤ (s.size : Int) := by omega
  have b2 : (m : Int) ≤ ((m + 4 : Nat) : Int) := by omega
  have b3 : (m : Int) ≤ (m : Int) + 4 := by omega
  have b4 : m ≤ s.size := by omega
  have b5 : m ≤ m + 4 := by omega
  go_upto_region 4 with fail
  go_region_held3 (fun _ => True) (go_keep) (first | (go_at_call 123; (try rw [HX.out]); with_reducible refine HC.out.mono ?_; rintro e w2 ⟨rfl, rfl⟩) | (go_at_call 185; (try rw [HY.out]); with_reducible refine (HM.out _).mono ?_; rintro e w3 ⟨rfl, rfl⟩))
  by_cases hcc : c1 = c2
  ·subst hcc; have e1 : ((c1 : Int) != (c1 : Int)) = false := by simp
   have hfin : (match (if c1 = c1 then Except.ok X.data.toList else Except.error 22 : Except Nat (List UInt8)) with | .ok b => Value.tuple #[.string ⟨b.toArray⟩, .int .i64 0] | .error c => .tuple #[.string ⟨#[]⟩, .int .i64 (c : Int)]) = .tuple #[.string X, .int .i64 0] := by rw [if_pos rfl]
   have HFIN := Jh hfin; clear hfin; go_wp2_with fail
   go_ret2
   exact ⟨congrArg Ending.returned HFIN.out.symm, HB.out⟩
  ·have e1 : ((c1 : Int) != (c2 : Int)) = true := by simp; omega
   go_wp2_with fail
   go_ret2
   exact ⟨by first | rfl | (rw [if_neg hcc]; rfl), HB.out⟩
end Go.Proofs.YtdoiekknhnbepaaGreatDoor
namespace Go.Proofs.YtdoiekknhnbepaaGreatDoor
def symR (t : List Txt) (s : List UInt8) (k : Int) : Txt × Nat × Nat :=
 if (Kan s k).2.2 ≠ 0 then ([], 0, (Kan s k).2.2) else if t.length ≤ (Kan s k).1 then ([], 0, 50) else (t[(Kan s k).1]!, (Kan s k).2.1, 0)
def Kfj (out : List Lb) (x : Txt) : Bool := decide (0 < out.length ∧ ¬ (out[out.length - 1]!).n < x)
def unpL (t : List Txt) (s : List UInt8) : Nat → List Lb → Nat → List Lb × Nat × Nat
 | 0, out, p => (out, p, 0)
 | g + 1, out, p =>
  if (symR t s p).2.2 ≠ 0 then ([], 0, (symR t s p).2.2) else
  if (symR t s (symR t s p).2.1).2.2 ≠ 0 then ([], 0, (symR t s (symR t s p).2.1).2.2) else
  if fitN (symR t s p).1 = false then ([], 0, 40) else
  if fitV (symR t s (symR t s p).2.1).1 = false then ([], 0, 41) else
  if Kfj out (symR t s p).1 = true then ([], 0, 42) else
  unpL t s g (out ++ [⟨(symR t s p).1, (symR t s (symR t s p).2.1).1⟩]) (symR t s (symR t s p).2.1).2.1
def unpR (t : List Txt) (s : List UInt8) (k : Int) : List Lb × Nat × Nat :=
 if (Kan s k).2.2 ≠ 0 then ([], 0, (Kan s k).2.2) else if (Kan s k).1 = 0 then ([], 0, 43) else if 8 < (Kan s k).1 then ([], 0, 44) else unpL t s (Kan s k).1 [] (Kan s k).2.1
theorem Ksj {t : List Txt} {s : List UInt8} {k : Int} {x : Txt} {n e : Nat} (h : symR t s k = (x, n, e)) : x = [] ∨ x ∈ t := by
 unfold symR at h
 split at h
 ·injection h with h _; exact .inl h.symm
 ·split at h
  ·injection h with h _; exact .inl h.symm
  ·rename_i hlt
   injection h with h _; right; rw [← h, getElem!_pos t _ (by omega)]; exact List.getElem_mem _
theorem Kwx (x : Lb) : Kav [x] = if fitN x.n = false then 40 else if fitV x.v = false then 41 else 0 := by
 simp [Kav, Kcc]
end Go.Proofs.YtdoiekknhnbepaaGreatDoor
namespace Go.Proofs.YtdoiekknhnbepaaGreatDoor
open List renaming length_append → Jd
theorem Ktw {t : List Txt} (ha : Asc t) {x : Txt} (hx : x ∈ t) : t[below t x]? = some x := by
 obtain ⟨i, hi, e⟩ := List.getElem_of_mem hx; have h1 : t[i]? = some x := by rw [List.getElem?_eq_getElem hi, e]
 rw [Qfj ha h1]; exact h1
theorem Kxb {t : List Txt} (ha : Asc t) {x : Txt} (hx : x ∈ t) : numR t x = (below t x, 0) := by rw [numR, if_pos (Ktw ha hx)]
def pkS (t : List Txt) (xs : List Txt) : List UInt8 := xs.flatMap fun x => uintT (below t x)
def pk (t : List Txt) (l : List Lb) : List UInt8 := uintT l.length ++ pkS t (texts l)
theorem Kip (t : List Txt) (x : Txt) (r : List Txt) : pkS t (x :: r) = uintT (below t x) ++ pkS t r := rfl
theorem Kqy {t : List Txt} (ha : Asc t) : ∀ xs : List Txt, (∀ x ∈ xs, x ∈ t) → packS t xs = some (pkS t xs)
 | [], _ => rfl
 | x :: r, h => by
  rw [packS, Kxb ha (h x (by simp)), Kqy ha r (fun y hy => h y (by simp [hy]))]; simp [Kip]
theorem Qay {t : List Txt} (ha : Asc t) {l : List Lb} (he : Kcp l = 0) (h : ∀ x ∈ texts l, x ∈ t) : packR t l = (pk t l, 0) := by
 rw [packR, he, Kqy ha _ h]; simp [pk]
theorem Klx (pre post : List UInt8) {v : Nat} (hv : v < 2 ^ 64) : Kan (pre ++ (uintT v ++ post)) (pre.length : Int) = (v, pre.length + (uintT v).length, 0) := by
 rw [Kdi, List.drop_left, Ken hv]; rfl
theorem Krj {t : List Txt} (ha : Asc t) (ht : t.length < 2 ^ 64) (pre post : List UInt8) {x : Txt} (hx : x ∈ t) : symR t (pre ++ (uintT (below t x) ++ post)) (pre.length : Int) = (x, pre.length + (uintT (below t x)).length, 0) := by
 have hb := Ktw ha hx; have hl : below t x < t.length := (List.getElem?_eq_some_iff.1 hb).1; have hr := Klx pre post (v := below t x) (by omega); unfold symR; rw [hr]; simp only [ne_eq, not_true_eq_false, if_false]; rw [if_neg (by omega), getElem!_pos t _ hl]; rw [List.getElem?_eq_getElem hl] at hb; injection hb with hb; rw [hb]
theorem Kvt {out l : List Lb} {x : Lb} (h : (names (out ++ x :: l)).Pairwise (· < ·)) : Kfj out x.n = false := by
 unfold Kfj; rw [decide_eq_false_iff_not]; rintro ⟨h0, h1⟩; apply h1; rw [getElem!_pos out _ (by omega)]; unfold names at h; rw [List.map_append, List.pairwise_append] at h; exact h.2.2 _ (List.mem_map_of_mem (List.getElem_mem _)) _ (by simp)
theorem Kqu {t : List Txt} (ha : Asc t) (ht : t.length < 2 ^ 64) : ∀ (l out : List Lb) (pre post : List UInt8), (∀ x ∈ l, fitN x.n = true ∧ fitV x.v = true) → (names (out ++ l)).Pairwise (· < ·) → (∀ x ∈ texts l, x ∈ t) →
  unpL t (pre ++ (pkS t (texts l) ++ post)) l.length out pre.length = (out ++ l, pre.length + (pkS t (texts l)).length, 0)
 | [], out, pre, post, _, _, _ => by simp [unpL, texts, pkS]
 | x :: l, out, pre, post, hf, hn, hm => by
  rw [Kgo] at hm ⊢; rw [Kip, Kip, List.length_cons, unpL]; have hx1 : x.n ∈ t := hm _ (by simp); have hx2 : x.v ∈ t := hm _ (by simp); have e1 : pre ++ ((uintT (below t x.n) ++ (uintT (below t x.v) ++ pkS t (texts l))) ++ post) = pre ++ (uintT (below t x.n) ++ (uintT (below t x.v) ++ (pkS t (texts l) ++ post))) := by simp
  have s1 := Krj ha ht pre (uintT (below t x.v) ++ (pkS t (texts l) ++ post)) hx1; have e2 : pre ++ (uintT (below t x.n) ++ (uintT (below t x.v) ++ (pkS t (texts l) ++ post))) = (pre ++ uintT (below t x.n)) ++ (uintT (below t x.v) ++ (pkS t (texts l) ++ post)) := by simp
  have s2 := Krj ha ht (pre ++ uintT (below t x.n)) (pkS t (texts l) ++ post) hx2; rw [← e2, Jd] at s2; have e3 : pre ++ (uintT (below t x.n) ++ (uintT (below t x.v) ++ (pkS t (texts l) ++ post))) = (pre ++ uintT (below t x.n) ++ uintT (below t x.v)) ++ (pkS t (texts l) ++ post) := by simp
  have ih := Kqu ha ht l (out ++ [x]) (pre ++ uintT (below t x.n) ++ uintT (below t x.v)) post (fun y hy => hf y (by simp [hy])) (by simpa using hn) (fun y hy => hm y (by simp [hy])); rw [← e3, Jd, Jd] at ih; obtain ⟨f1, f2⟩ := hf x (by simp); have htl := Kvt hn; rw [e1, s1]; simp only []; rw [s2]; simp only [ne_eq, not_true_eq_false, if_false, f1, f2, htl, Bool.false_eq_true, Bool.true_eq_false]; rw [ih]; simp [Nat.add_assoc]
theorem Qcd {t : List Txt} (ha : Asc t) (ht : t.length < 2 ^ 64) {l : List Lb} (he : Kcp l = 0) (hm : ∀ x ∈ texts l, x ∈ t) (pre post : List UInt8) :
  unpR t (pre ++ (pk t l ++ post)) (pre.length : Int) = (l, pre.length + (pk t l).length, 0) := by
 have hmk : Kav l = 0 := by
  rcases Khb l with ⟨h1, h2⟩ | ⟨h1, _⟩ | ⟨h1, _⟩
  ·rw [h2] at he; exact he
  ·exact h1
  ·exact h1
 have hpw : (names l).Pairwise (· < ·) := by
  unfold Kcp at he; rw [if_neg (by simp [hmk])] at he
  split at he
  ·assumption
  ·omega
 obtain ⟨h0, h8, hf, _⟩ := Kds hmk; have hr := Klx pre (pkS t (texts l) ++ post) (v := l.length) (by omega); unfold pk; rw [List.append_assoc, unpR, hr]; simp only [ne_eq, not_true_eq_false, if_false]; rw [if_neg h0, if_neg (by omega)]; have := Kqu ha ht l [] (pre ++ uintT l.length) post hf (by simpa using hpw) hm; rw [Jd, List.append_assoc] at this; rw [this]; simp [Nat.add_assoc]
theorem Kxo (t : List Txt) : ∀ xs : List Txt, (pkS t xs).length ≤ 11 * xs.length
 | [] => by simp [pkS]
 | x :: r => by
  have h1 := Kxo t r; have h2 := Kab (below t x); rw [Kip, Jd, List.length_cons]; omega
theorem Qcc (t : List Txt) (l : List Lb) : (pk t l).length ≤ 11 + 22 * l.length := by
 have h1 := Kxo t (texts l); have h2 := Kab l.length
 have h3 : (texts l).length = 2 * l.length := by
  clear h1 h2
  induction l with
  | nil => rfl
  | cons x l ih => rw [Kgo, List.length_cons, List.length_cons, ih, List.length_cons]; omega
 unfold pk; rw [Jd]; omega
end Go.Proofs.YtdoiekknhnbepaaGreatDoor
namespace Go.Proofs.YtdoiekknhnbepaaGreatDoor
def Kby : Nat → List Nat → List UInt8
 | _, [] => []
 | a, x :: l => uintT (x - a) ++ Kby x l
def postT (l : List Nat) : List UInt8 := uintT l.length ++ Kby 0 l
def Kgw : Nat → Bool → List Nat → Prop
 | _, _, [] => True
 | a, first, x :: l => (a < x ∨ (first = true ∧ a ≤ x)) ∧ x ≤ 4611686018427387904 ∧ Kgw x false l
def Kes (s : List UInt8) : Nat → Nat → Bool → Nat → Option (List Nat × Nat)
 | 0, _, _, i => some ([], i)
 | n + 1, a, first, i => match ruAt s i with
  | none => none
  | some (st, i') => if (first = false ∧ st = 0) ∨ 4611686018427387904 - a < st then none else match Kes s n (a + st) false i' with
   | none => none
   | some (l, i2) => some ((a + st) :: l, i2)
def postR (s : List UInt8) (i : Nat) : Option (List Nat × Nat) := match ruAt s i with
 | none => none
 | some (n, i') => Kes s n 0 true i'
theorem Knm {s r : List UInt8} : ∀ (l : List Nat) {i a : Nat} {first : Bool}, Kgw a first l → s.drop i = Kby a l ++ r → Kes s l.length a first i = some (l, i + (Kby a l).length) ∧ s.drop (i + (Kby a l).length) = r
 | [], i, a, first, _, h => ⟨rfl, h⟩
 | x :: l, i, a, first, hr, h => by
  obtain ⟨h1, h2, h3⟩ := hr; rw [Kby, List.append_assoc] at h; obtain ⟨e1, k1⟩ := ru_of (v := x - a) (by omega) h; obtain ⟨e2, k2⟩ := Knm l h3 k1; have ha : a + (x - a) = x := by omega
  rw [List.length_cons, Kes, e1]; dsimp only
  have hc : ¬ ((first = false ∧ x - a = 0) ∨ 4611686018427387904 - a < x - a) := by
   rintro (⟨hf, h0⟩ | h0)
   ·rcases h1 with h1 | ⟨h1, _⟩
    ·omega
    ·rw [h1] at hf; cases hf
   ·rcases h1 with h1 | ⟨_, h1⟩ <;> omega
  rw [if_neg hc, ha, e2]; simp only [Kby, List.length_append, Nat.add_assoc] at k2 ⊢; exact ⟨trivial, k2⟩
theorem Qak {s r : List UInt8} {i : Nat} {l : List Nat} (hr : Kgw 0 true l) (hn : l.length < 2 ^ 64) (h : s.drop i = postT l ++ r) : postR s i = some (l, i + (postT l).length) ∧ s.drop (i + (postT l).length) = r := by
 unfold postT at h ⊢; rw [List.append_assoc] at h; obtain ⟨e1, k1⟩ := ru_of hn h; obtain ⟨e2, k2⟩ := Knm l hr k1; unfold postR; rw [e1]; dsimp only; rw [e2]; simp only [List.length_append, Nat.add_assoc] at k2 ⊢; exact ⟨trivial, k2⟩
def riAt (s : List UInt8) (i : Nat) : Option (Int × Nat) := match readI (s.drop i) with
 | .ok (v, k) => some (v, i + k)
 | .error _ => none
theorem ri_of {s r : List UInt8} {i : Nat} {v : Int} (h1 : -9223372036854775808 ≤ v) (h2 : v ≤ 9223372036854775807) (h : s.drop i = intT v ++ r) : riAt s i = some (v, i + (intT v).length) ∧ s.drop (i + (intT v).length) = r := by
 refine ⟨?_, ?_⟩
 ·unfold riAt; rw [h, Qcy h1 h2]
 ·rw [← List.drop_drop, h, List.drop_left]
end Go.Proofs.YtdoiekknhnbepaaGreatDoor
namespace Go.Proofs.YtdoiekknhnbepaaGreatDoor
open Go.RowKit
def Kbs : Nat → List Smp → List (List Smp)
 | 0, _ => []
 | _ + 1, [] => []
 | f + 1, x :: l => (x :: l).take 120 :: Kbs f ((x :: l).drop 120)
theorem Kkp : ∀ (f : Nat) (l : List Smp), l.length ≤ f → (Kbs f l).flatten = l
 | 0, l, h => by
  have h0 : l = [] := List.eq_nil_of_length_eq_zero (by omega); rw [h0]; rfl
 | _ + 1, [], _ => rfl
 | f + 1, x :: l, h => by
  have h2 : ((x :: l).drop 120).length ≤ f := by rw [List.length_drop]; rw [List.length_cons] at h ⊢; omega
  rw [Kbs, List.flatten_cons, Kkp f _ h2, List.take_append_drop]
theorem Klk : ∀ (f : Nat) (l p : List Smp), p ∈ Kbs f l → p ≠ [] ∧ p.length ≤ 120 ∧ p.Sublist l
 | 0, _, _, h => by simp [Kbs] at h
 | _ + 1, [], _, h => by simp [Kbs] at h
 | f + 1, x :: l, p, h => by
  rw [Kbs, List.mem_cons] at h; rcases h with rfl | h
  ·exact ⟨by simp, by rw [List.length_take]; omega, List.take_sublist _ _⟩
  ·obtain ⟨h1, h2, h3⟩ := Klk f _ p h; exact ⟨h1, h2, h3.trans (List.drop_sublist _ _)⟩
theorem Kdt : ∀ (f : Nat) (l : List Smp), (Kbs f l).length ≤ f
 | 0, _ => Nat.le_refl _
 | _ + 1, [] => Nat.zero_le _
 | f + 1, x :: l => by rw [Kbs, List.length_cons]; have := Kdt f ((x :: l).drop 120); omega
def aggsT : List Wnd → List (List UInt8)
 | [] => []
 | w :: l => [aggT (w :: l)]
def Kak (s : Ser) : List (List UInt8) := (Kbs s.samples.length s.samples).map Kce ++ aggsT s.windows
def lensT (P : List (List UInt8)) : List UInt8 := P.flatMap fun p => uintT p.length
def serT (t : List Txt) (s : Ser) : List UInt8 := pk t s.labels ++ (uintT (Kak s).length ++ lensT (Kak s))
def decC (s : List UInt8) : Option (List Smp) := if (readC s).2 = true ∧ fitC none 0 (readC s).1 = true ∧ Kce (readC s).1 = s then some (readC s).1 else none
def decP (res : Nat) (a : Ser) (s : List UInt8) : Option Ser := if res = 0 then (match decC s with | none => none | some l => some { a with samples := a.samples ++ l }) else (match aggR s with | none => none | some l => some { a with windows := a.windows ++ l })
def Kgu (res : Nat) (I C : List UInt8) : Nat → Ser → Nat → Nat → Option (Ser × Nat × Nat)
 | 0, a, i, j => some (a, i, j)
 | k + 1, a, i, j => match ruAt I i with
  | none => none
  | some (n, i') => if j + n ≤ C.length then (match decP res a ((C.drop j).take n) with | none => none | some a' => Kgu res I C k a' i' (j + n)) else none
def sersR (t : List Txt) (res : Nat) (I C : List UInt8) : Nat → List Ser → Nat → Nat → Option (List Ser × Nat × Nat)
 | 0, out, i, j => some (out, i, j)
 | g + 1, out, i, j => if (unpR t I i).2.2 ≠ 0 then none else match ruAt I (unpR t I i).2.1 with
  | none => none
  | some (k, i2) => match Kgu res I C k ⟨(unpR t I i).1, [], []⟩ i2 j with
   | none => none
   | some (s, i3, j3) => sersR t res I C g (out ++ [s]) i3 j3
def lowT (out : List Txt) (x : Txt) : Bool := decide (0 < out.length ∧ ¬ out[out.length - 1]! < x)
def Kep (I : List UInt8) : Nat → List Txt → Nat → Option (List Txt × Nat)
 | 0, out, i => some (out, i)
 | g + 1, out, i => if (Kbg I i).2.2 ≠ 0 then none else if lowT out (Kbg I i).1 = true then none else Kep I g (out ++ [(Kbg I i).1]) (Kbg I i).2.1
def tabR (I : List UInt8) (i : Nat) : Option (List Txt × Nat) := if (Kan I i).2.2 ≠ 0 then none else Kep I (Kan I i).1 [] (Kan I i).2.1
theorem Kgn : ∀ {l : List Smp}, Rises l ↔ l.Pairwise fun a b => a.t < b.t
 | [] => ⟨fun _ => List.Pairwise.nil, fun _ => trivial⟩
 | [x] => ⟨fun _ => List.pairwise_singleton _ _, fun _ => trivial⟩
 | x :: y :: l => by
  have ih := Kgn (l := y :: l); rw [Rises, List.pairwise_cons, ih]; constructor
  ·rintro ⟨h1, h2⟩; refine ⟨fun z hz => ?_, h2⟩; rcases List.mem_cons.1 hz with rfl | hz
   ·exact h1
   ·have := (List.pairwise_cons.1 h2).1 z hz; omega
  ·rintro ⟨h1, h2⟩; exact ⟨h1 y (by simp), h2⟩
theorem Kok : ∀ {l : List Int}, riseI l = true ↔ l.Pairwise fun a b => a < b
 | [] => ⟨fun _ => List.Pairwise.nil, fun _ => rfl⟩
 | [x] => ⟨fun _ => List.pairwise_singleton _ _, fun _ => rfl⟩
 | x :: y :: l => by
  have ih := Kok (l := y :: l); rw [riseI, Bool.and_eq_true, List.pairwise_cons, ih, decide_eq_true_eq]; constructor
  ·rintro ⟨h1, h2⟩; refine ⟨fun z hz => ?_, h2⟩; rcases List.mem_cons.1 hz with rfl | hz
   ·exact h1
   ·have := (List.pairwise_cons.1 h2).1 z hz; omega
  ·rintro ⟨h1, h2⟩; exact ⟨h1 y (by simp), h2⟩
theorem Kly {f t : Int} {l : List Int} : Kcl f t l = true ↔ l ≠ [] ∧ (∀ x ∈ l, f ≤ x ∧ x < t) ∧ l.Pairwise fun a b => a < b := by
 unfold Kcl; simp only [Bool.and_eq_true, decide_eq_true_eq, List.all_eq_true, Kok, and_assoc]
theorem Kob {f t : Int} {l : List Smp} : Kcl f t (l.map Smp.t) = true ↔ l ≠ [] ∧ (∀ x ∈ l, f ≤ x.t ∧ x.t < t) ∧ Rises l := by
 rw [Kly, Kgn, List.pairwise_map]; simp
theorem Ksu {l : List Smp} (h : ∀ x ∈ l, SmpOk x) (hr : Rises l) {f : Nat} {p : List Smp} (hp : p ∈ Kbs f l) : Kib p := by
 obtain ⟨h1, h2, h3⟩ := Klk f l p hp; exact ⟨fun x hx => h x (h3.subset hx), Kgn.2 ((Kgn.1 hr).sublist h3), h2⟩
theorem Qgh {p : List Smp} (h : Kib p) : decC (Kce p) = some p := by
 unfold decC; rw [Kzp h]; have : fitC none 0 p = true := (Kmo p none 0).2 ⟨fun x hx => ⟨(h.1 x hx).1, (h.1 x hx).2.1⟩, h.2.1, fun y x hy => (by cases hy), .inr (by have := h.2.2; omega)⟩; rw [if_pos ⟨rfl, this, rfl⟩]
def foldP (res : Nat) : Ser → List (List UInt8) → Option Ser
 | a, [] => some a
 | a, p :: P => match decP res a p with | none => none | some a' => foldP res a' P
theorem Klu {res : Nat} {I C : List UInt8} : ∀ (P : List (List UInt8)) {a a' : Ser} {i j : Nat} {r r' : List UInt8}, foldP res a P = some a' → (∀ p ∈ P, p.length < 2 ^ 64) → I.drop i = lensT P ++ r → C.drop j = P.flatten ++ r' → j ≤ C.length →
  Kgu res I C P.length a i j = some (a', i + (lensT P).length, j + P.flatten.length) ∧ I.drop (i + (lensT P).length) = r ∧ C.drop (j + P.flatten.length) = r' ∧ j + P.flatten.length ≤ C.length
 | [], a, a', i, j, r, r', hf, _, hI, hC, hj => by
  injection hf with hf; subst hf; exact ⟨rfl, by simpa [lensT] using hI, by simpa using hC, by simpa using hj⟩
 | p :: P, a, a', i, j, r, r', hf, hn, hI, hC, hj => by
  rw [foldP] at hf; have hI' : I.drop i = uintT p.length ++ (lensT P ++ r) := by rw [hI]; simp [lensT]
  obtain ⟨e1, e2⟩ := ru_of (hn p (by simp)) hI'; have hC' : C.drop j = p ++ (P.flatten ++ r') := by rw [hC]; simp
  have hlen : j + p.length ≤ C.length := by
   have := congrArg List.length hC'; rw [List.length_drop, List.length_append] at this; omega
  have htk : (C.drop j).take p.length = p := by rw [hC', List.take_left]
  have hdr : C.drop (j + p.length) = P.flatten ++ r' := by rw [← List.drop_drop, hC', List.drop_left]
  cases hd : decP res a p with
  | none => rw [hd] at hf; cases hf
  | some a1 =>
   rw [hd] at hf; obtain ⟨g1, g2, g3, g4⟩ := Klu P hf (fun q hq => hn q (by simp [hq])) e2 hdr hlen; have hl : (lensT (p :: P)).length = (uintT p.length).length + (lensT P).length := by simp [lensT]
   have hfl : (p :: P).flatten.length = p.length + P.flatten.length := by simp
   rw [List.length_cons, Kgu, e1]; dsimp only; rw [if_pos hlen, htk, hd]; dsimp only; rw [g1, hl, hfl, ← Nat.add_assoc, ← Nat.add_assoc]; exact ⟨rfl, g2, g3, g4⟩
theorem Kju : ∀ (P : List (List Smp)) (a : Ser), (∀ p ∈ P, Kib p) → foldP 0 a (P.map Kce) = some { a with samples := a.samples ++ P.flatten }
 | [], a, _ => by simp [foldP]
 | p :: P, a, h => by
  rw [List.map_cons, foldP, decP, if_pos rfl, Qgh (h p (by simp))]; dsimp only; rw [Kju P _ (fun q hq => h q (by simp [hq]))]; simp
structure Kpk (s : Ser) : Prop where
 smp : ∀ x ∈ s.samples, x.v < 2 ^ 64
 wnd : ∀ w ∈ s.windows, Kaz w
 n : s.samples.length < 2 ^ 58
 m : s.windows.length < 2 ^ 58
theorem Kwa {c : Cont} {s : Ser} {res : Nat} (hres : c.res = (res : Int)) (hf : Kdd c s = true) (hb : Kpk s) (h0 : 0 ≤ c.frm) (h1 : c.to_ ≤ 1125899906842625) : foldP res ⟨s.labels, [], []⟩ (Kak s) = some s := by
 unfold Kdd at hf
 by_cases h : c.res = 0
 ·rw [if_pos h, Bool.and_eq_true, decide_eq_true_eq, Kob] at hf; obtain ⟨hw, hne, hr, hs⟩ := hf; have hz : res = 0 := by omega
  subst hz; have hw' : s.windows = [] := List.eq_nil_of_length_eq_zero hw; have hp : ∀ p ∈ Kbs s.samples.length s.samples, Kib p := fun p hp => Ksu (fun x hx => ⟨by have := hr x hx; omega, by have := hr x hx; omega, hb.smp x hx⟩) hs hp
  unfold Kak; rw [hw', aggsT, List.append_nil, Kju _ _ hp, Kkp _ _ (Nat.le_refl _)]; cases s
  simp_all
 ·rw [if_neg h, Bool.and_eq_true, Bool.and_eq_true, decide_eq_true_eq, Kly] at hf; obtain ⟨⟨hfo, hs⟩, hne, _⟩ := hf; have hs' : s.samples = [] := List.eq_nil_of_length_eq_zero hs; have hz : res ≠ 0 := by omega
  unfold Kak; rw [hs']
  cases hw : s.windows with
  | nil => rw [hw] at hne; exact absurd rfl hne
  | cons w l =>
   have hag : aggR (aggT (w :: l)) = some (w :: l) := by
    rw [← hw]; exact Qeu hb.wnd hfo (Nat.lt_trans hb.m (by decide))
   show foldP res _ ([] ++ aggsT (w :: l)) = _
   rw [List.nil_append, aggsT, foldP, decP, if_neg hz, hag]; dsimp only; rw [foldP]; cases s
   simp_all
theorem Kqt {t : List Txt} (ha : Asc t) (ht : t.length < 2 ^ 64) {l : List Lb} (he : Kcp l = 0) (hm : ∀ x ∈ texts l, x ∈ t) {I r : List UInt8} {i : Nat} (hi : i ≤ I.length) (h : I.drop i = pk t l ++ r) :
  unpR t I (i : Int) = (l, i + (pk t l).length, 0) ∧ I.drop (i + (pk t l).length) = r := by
 have e : I = I.take i ++ (pk t l ++ r) := by rw [← h, List.take_append_drop]
 have hl : (I.take i).length = i := by rw [List.length_take]; omega
 have := Qcd ha ht he hm (I.take i) r; rw [← e, hl] at this; exact ⟨this, by rw [← List.drop_drop, h, List.drop_left]⟩
theorem Kni {t : List Txt} (ha : Asc t) (ht : t.length < 2 ^ 64) {c : Cont} {res : Nat} (hres : c.res = (res : Int)) (h0 : 0 ≤ c.frm) (h1 : c.to_ ≤ 1125899906842625) {I C : List UInt8} :
  ∀ (L out : List Ser) {i j : Nat} {r r' : List UInt8}, (∀ s ∈ L, Kcp s.labels = 0 ∧ (∀ x ∈ texts s.labels, x ∈ t) ∧ Kdd c s = true ∧ Kpk s ∧ ∀ p ∈ Kak s, p.length < 2 ^ 64) → i ≤ I.length → j ≤ C.length → I.drop i = L.flatMap (serT t) ++ r → C.drop j = L.flatMap (fun s => (Kak s).flatten) ++ r' →
  sersR t res I C L.length out i j = some (out ++ L, i + (L.flatMap (serT t)).length, j + (L.flatMap (fun s => (Kak s).flatten)).length) ∧ I.drop (i + (L.flatMap (serT t)).length) = r
 | [], out, i, j, r, r', _, _, _, hI, hC => ⟨by simp [sersR], by simpa using hI⟩
 | s :: L, out, i, j, r, r', hs, hi, hj, hI, hC => by
  obtain ⟨he, hm, hf, hb, hp⟩ := hs s (by simp); have hI1 : I.drop i = pk t s.labels ++ (uintT (Kak s).length ++ (lensT (Kak s) ++ (L.flatMap (serT t) ++ r))) := by rw [hI]; simp [serT]
  obtain ⟨e1, e2⟩ := Kqt ha ht he hm hi hI1
  have hc : (Kak s).length < 2 ^ 64 := by
   have a1 := Kdt s.samples.length s.samples; have a2 : (aggsT s.windows).length ≤ 1 := by cases s.windows <;> simp [aggsT]
   have a3 := hb.n; unfold Kak; rw [List.length_append, List.length_map]; omega
  obtain ⟨e3, e4⟩ := ru_of hc e2; have hC1 : C.drop j = (Kak s).flatten ++ (L.flatMap (fun s => (Kak s).flatten) ++ r') := by rw [hC]; simp
  obtain ⟨e5, e6, e7, e8⟩ := Klu (Kak s) (Kwa hres hf hb h0 h1) hp e4 hC1 hj
  have hi2 : i + (pk t s.labels).length + (uintT (Kak s).length).length + (lensT (Kak s)).length ≤ I.length := by
   have := congrArg List.length hI1; simp only [List.length_drop, List.length_append] at this; have h3 := (Kab (Kak s).length).1; omega
  obtain ⟨e9, e10⟩ := Kni ha ht hres h0 h1 L (out ++ [s]) (fun q hq => hs q (by simp [hq])) hi2 e8 e6 e7; have hl : ((s :: L).flatMap (serT t)).length = (pk t s.labels).length + (uintT (Kak s).length).length + (lensT (Kak s)).length + (L.flatMap (serT t)).length := by simp [serT]; omega
  have hl2 : ((s :: L).flatMap (fun s => (Kak s).flatten)).length = (Kak s).flatten.length + (L.flatMap (fun s => (Kak s).flatten)).length := by simp
  rw [List.length_cons, sersR, e1]; dsimp only; rw [if_neg (by simp), e3]; dsimp only; rw [e5]; dsimp only; rw [e9, hl, hl2]; refine ⟨?_, ?_⟩
  ·rw [List.append_assoc]; simp only [List.singleton_append, Option.some.injEq, Prod.mk.injEq, true_and]; omega
  ·rw [← e10]; congr 1; omega
theorem Kgv {I r : List UInt8} {i : Nat} {s : Txt} (hs : s.length < 2 ^ 64) (h : I.drop i = textT s ++ r) : Kbg I (i : Int) = (s, i + (textT s).length, 0) ∧ I.drop (i + (textT s).length) = r := by
 refine ⟨?_, by rw [← List.drop_drop, h, List.drop_left]⟩; unfold Kbg; rw [if_neg (by omega), Int.toNat_natCast, h, Kzy hs]
theorem Kvx {I r : List UInt8} {i v : Nat} (hv : v < 2 ^ 64) (h : I.drop i = uintT v ++ r) : Kan I (i : Int) = (v, i + (uintT v).length, 0) ∧ I.drop (i + (uintT v).length) = r := by
 refine ⟨?_, by rw [← List.drop_drop, h, List.drop_left]⟩; unfold Kan; rw [if_neg (by omega), Int.toNat_natCast, h, Ken hv]
theorem Kmb {I : List UInt8} : ∀ (l out : List Txt) {i : Nat} {r : List UInt8}, (out ++ l).Pairwise (· < ·) → (∀ x ∈ l, x.length < 2 ^ 64) → I.drop i = l.flatMap textT ++ r → Kep I l.length out i = some (out ++ l, i + (l.flatMap textT).length) ∧ I.drop (i + (l.flatMap textT).length) = r
 | [], out, i, r, _, _, h => ⟨by simp [Kep], by simpa using h⟩
 | x :: l, out, i, r, hp, hz, h => by
  have h' : I.drop i = textT x ++ (l.flatMap textT ++ r) := by rw [h]; simp
  obtain ⟨e1, e2⟩ := Kgv (hz x (by simp)) h'
  have hlow : lowT out x = false := by
   unfold lowT; rw [decide_eq_false_iff_not]; rintro ⟨h1, h2⟩; apply h2; rw [getElem!_pos out _ (by omega)]; exact (List.pairwise_append.1 hp).2.2 _ (List.getElem_mem _) x (by simp)
  obtain ⟨e3, e4⟩ := Kmb l (out ++ [x]) (by simpa using hp) (fun y hy => hz y (by simp [hy])) e2; rw [List.length_cons, Kep, e1]; dsimp only; rw [if_neg (by simp), hlow, if_neg (by simp), e3]; refine ⟨?_, ?_⟩
  ·simp [Nat.add_assoc]
  ·rw [← e4]; congr 1; simp [Nat.add_assoc]
theorem Kql {t : List Txt} (ha : Asc t) (ht : t.length < 2 ^ 64) (hz : ∀ x ∈ t, x.length < 2 ^ 64) {I r : List UInt8} {i : Nat} (h : I.drop i = tabT t ++ r) : tabR I i = some (t, i + (tabT t).length) ∧ I.drop (i + (tabT t).length) = r := by
 have h' : I.drop i = uintT t.length ++ (t.flatMap textT ++ r) := by rw [h]; simp [tabT]
 obtain ⟨e1, e2⟩ := Kvx ht h'; obtain ⟨e3, e4⟩ := Kmb t [] ha hz e2; unfold tabR; rw [e1]; dsimp only; rw [if_neg (by simp), e3]; refine ⟨?_, ?_⟩
 ·simp [tabT, Nat.add_assoc]
 ·rw [← e4]; congr 1; simp [tabT, Nat.add_assoc]
instance lbEq : DecidableEq Lb := fun a b => by
 cases a with
 | mk n v =>
  cases b with
  | mk n' v' => exact if h : n = n' ∧ v = v' then isTrue (by rw [h.1, h.2]) else isFalse fun e => h (by injection e with e1 e2; exact ⟨e1, e2⟩)
instance ltBDec : DecidableRel ltB := fun x y => by unfold ltB; infer_instance
theorem Keb (x : Lb) : ¬ ltB x x := by
 rintro (h | ⟨_, h⟩) <;> exact List.lt_irrefl _ h
theorem Kpu {x y : Lb} (h1 : ¬ ltB x y) (h2 : ¬ ltB y x) : x = y := by
 unfold ltB at h1 h2; have hn : x.n = y.n := Kef (fun h => h1 (.inl h)) (fun h => h2 (.inl h)); have hv : x.v = y.v := Kef (fun h => h1 (.inr ⟨hn, h⟩)) (fun h => h2 (.inr ⟨hn.symm, h⟩)); cases x; cases y
 simp_all
def Qhp (S : List (List Lb)) (K : List Lb) : Prop := K.Pairwise ltB ∧ ∀ x, x ∈ K ↔ ∃ s ∈ S, x ∈ s
theorem Kur : ∀ {t t' : List Lb}, t.Pairwise ltB → t'.Pairwise ltB → (∀ x, x ∈ t ↔ x ∈ t') → t = t'
 | [], [], _, _, _ => rfl
 | [], b :: s', _, _, h => by have := (h b).2 (by simp); simp at this
 | a :: s, [], _, _, h => by have := (h a).1 (by simp); simp at this
 | a :: s, b :: s', h1, h2, h => by
  have ha := List.pairwise_cons.1 h1; have hb := List.pairwise_cons.1 h2
  have hab : a = b := by
   apply Kpu
   ·intro hlt; rcases List.mem_cons.1 ((h a).1 (by simp)) with e | e
    ·exact Keb a (by rw [e] at hlt ⊢; exact hlt)
    ·exact Keb a (Kfw hlt (hb.1 a e))
   ·intro hlt; rcases List.mem_cons.1 ((h b).2 (by simp)) with e | e
    ·exact Keb b (by rw [e] at hlt ⊢; exact hlt)
    ·exact Keb b (Kfw hlt (ha.1 b e))
  subst hab; rw [Kur ha.2 hb.2 fun x => ?_]; constructor
  ·intro hx; rcases List.mem_cons.1 ((h x).1 (by simp [hx])) with e | e
   ·subst e; exact absurd (ha.1 x hx) (Keb x)
   ·exact e
  ·intro hx; rcases List.mem_cons.1 ((h x).2 (by simp [hx])) with e | e
   ·subst e; exact absurd (hb.1 x hx) (Keb x)
   ·exact e
def insK (x : Lb) : List Lb → List Lb
 | [] => [x]
 | y :: l => if ltB x y then x :: y :: l else if ltB y x then y :: insK x l else y :: l
theorem Kms (x : Lb) : ∀ (l : List Lb) (z : Lb), z ∈ insK x l ↔ z = x ∨ z ∈ l
 | [], z => by simp [insK]
 | y :: l, z => by
  rw [insK]
  split
  ·simp
  ·split
   ·rw [List.mem_cons, Kms x l z, List.mem_cons]; constructor
    ·rintro (h | h | h)
     ·exact .inr (.inl h)
     ·exact .inl h
     ·exact .inr (.inr h)
    ·rintro (h | h | h)
     ·exact .inr (.inl h)
     ·exact .inl h
     ·exact .inr (.inr h)
   ·rename_i h1 h2
    have e := Kpu h1 h2; subst e; simp
theorem Kqa (x : Lb) : ∀ (l : List Lb), l.Pairwise ltB → (insK x l).Pairwise ltB
 | [], _ => List.pairwise_singleton _ _
 | y :: l, h => by
  have hc := List.pairwise_cons.1 h; rw [insK]
  split
  ·rename_i h1
   refine List.pairwise_cons.2 ⟨fun z hz => ?_, h⟩; rcases List.mem_cons.1 hz with rfl | hz
   ·exact h1
   ·exact Kfw h1 (hc.1 z hz)
  ·split
   ·rename_i h1 h2
    refine List.pairwise_cons.2 ⟨fun z hz => ?_, Kqa x l hc.2⟩; rcases (Kms x l z).1 hz with rfl | hz
    ·exact h2
    ·exact hc.1 z hz
   ·exact h
def keysOf (S : List (List Lb)) : List Lb := S.flatten.foldr insK []
theorem Kej (S : List (List Lb)) : Qhp S (keysOf S) := by
 have key : ∀ l : List Lb, (l.foldr insK []).Pairwise ltB ∧ ∀ x, x ∈ l.foldr insK [] ↔ x ∈ l := by
  intro l
  induction l with
  | nil => exact ⟨List.Pairwise.nil, fun _ => Iff.rfl⟩
  | cons y l ih => exact ⟨Kqa y _ ih.1, fun x => by rw [List.foldr_cons, Kms, ih.2, List.mem_cons]⟩
 obtain ⟨h1, h2⟩ := key S.flatten; exact ⟨h1, fun x => (h2 x).trans (by rw [List.mem_flatten])⟩
def Kaj (S : List (List Lb)) (x : Lb) : List Nat := (List.range S.length).filter fun i => decide (x ∈ S.getD i [])
theorem Kme : ∀ (l : List Nat) (a : Nat) (first : Bool), l.Pairwise (· < ·) → (∀ x ∈ l, x ≤ 4611686018427387904) → (∀ x ∈ l, a < x ∨ (first = true ∧ a ≤ x)) → Kgw a first l
 | [], _, _, _, _, _ => trivial
 | x :: l, a, first, hp, hm, ha => by
  have hc := List.pairwise_cons.1 hp; exact ⟨ha x (by simp), hm x (by simp), Kme l x false hc.2 (fun y hy => hm y (by simp [hy])) (fun y hy => .inl (hc.1 y hy))⟩
theorem Kua {S : List (List Lb)} (h : S.length ≤ 4611686018427387904) (x : Lb) : Kgw 0 true (Kaj S x) := by
 refine Kme _ 0 true ?_ ?_ (fun x _ => .inr ⟨rfl, Nat.zero_le _⟩)
 ·exact List.Pairwise.sublist List.filter_sublist List.pairwise_lt_range
 ·intro y hy; have := List.mem_range.1 (List.mem_filter.1 hy).1; omega
theorem Kfs (S : List (List Lb)) (x : Lb) : (Kaj S x).length ≤ S.length := by
 have := List.length_filter_le (fun i => decide (x ∈ S.getD i [])) (List.range S.length); rwa [List.length_range] at this
def keyT (S : List (List Lb)) (x : Lb) : List UInt8 := textT x.n ++ (textT x.v ++ postT (Kaj S x))
def Kbj (S : List (List Lb)) : List UInt8 := uintT (keysOf S).length ++ (keysOf S).flatMap (keyT S)
structure Fil where
 mt : List UInt8
 ck : List UInt8
 ix : List UInt8
instance filEq : DecidableEq Fil := fun a b => by
 cases a with
 | mk m c i =>
  cases b with
  | mk m' c' i' => exact if h : m = m' ∧ c = c' ∧ i = i' then isTrue (by rw [h.1, h.2.1, h.2.2]) else isFalse fun e => h (by injection e with e1 e2 e3; exact ⟨e1, e2, e3⟩)
def Kae (c : Cont) : List (List Lb) := c.series.map Ser.labels
def allS (S : List (List Lb)) : List Txt := S.flatMap texts
def tabOf (S : List (List Lb)) : List Txt := Lib.compact ((allS S).mergeSort fun x y => decide (x ≤ y))
theorem Kei (S : List (List Lb)) : IsTab (allS S) (tabOf S) := Qep _
def metaB (c : Cont) : List UInt8 := uintT c.res.toNat ++ (intT c.frm ++ intT c.to_)
def Kcm (c : Cont) : List UInt8 := c.series.flatMap fun s => (Kak s).flatten
def Kbe (c : Cont) : List UInt8 := tabT (tabOf (Kae c)) ++ (uintT c.series.length ++ (c.series.flatMap (serT (tabOf (Kae c))) ++ Kbj (Kae c)))
def Kbk (c : Cont) : Fil := ⟨sealT (metaB c), sealT (Kcm c), sealT (Kbe c)⟩
def ordS : List Ser → Bool
 | [] => true
 | [_] => true
 | a :: b :: l => decide (cmpL a.labels b.labels < 0) && ordS (b :: l)
def fitB (c : Cont) : Bool := decide (0 ≤ c.res) && decide (c.res < 3) && decide (0 ≤ c.frm) && decide (c.frm < c.to_) && decide (c.to_ ≤ 1125899906842625) && c.series.all (fun s => Kck s.labels && Kdd c s) && ordS c.series
theorem Kex {c : Cont} : fitB c = true ↔ 0 ≤ c.res ∧ c.res < 3 ∧ 0 ≤ c.frm ∧ c.frm < c.to_ ∧ c.to_ ≤ 1125899906842625 ∧ (∀ s ∈ c.series, Kck s.labels = true ∧ Kdd c s = true) ∧ ordS c.series = true := by
 unfold fitB; simp only [Bool.and_eq_true, decide_eq_true_eq, List.all_eq_true, and_assoc]
def Kgc (f : Fil) : Option Cont := match Kau f.mt, Kau f.ck, Kau f.ix with
 | .ok M, .ok C, .ok I => match ruAt M 0 with
  | none => none
  | some (r, m1) => match riAt M m1 with
   | none => none
   | some (a, m2) => match riAt M m2 with
    | none => none
    | some (b, _) => match tabR I 0 with
     | none => none
     | some (t, i0) => match ruAt I i0 with
      | none => none
      | some (n, i1) => match sersR t (min r 9) I C n [] i1 0 with
       | none => none
       | some (out, _, _) => some ⟨(min r 9 : Nat), a, b, out⟩
 | _, _, _ => none
def Ket (f : Fil) : Option Cont := match Kgc f with
 | none => none
 | some c => if fitB c = true ∧ Kbk c = f then some c else none
structure Kfa (c : Cont) : Prop where
 ser : ∀ s ∈ c.series, Kpk s
 n : c.series.length < 2 ^ 58
 t : ∀ x ∈ tabOf (Kae c), x.length < 2 ^ 64
 tn : (tabOf (Kae c)).length < 2 ^ 64
 p : ∀ s ∈ c.series, ∀ p ∈ Kak s, p.length < 2 ^ 64
theorem Kiq {l : List Lb} (h : Kck l = true) : Kcp l = 0 := by
 unfold Kck at h; rw [Bool.and_eq_true, decide_eq_true_eq, decide_eq_true_eq] at h; unfold Kcp; rw [if_neg (by simp [h.1]), if_pos h.2]
theorem Kzo {c : Cont} (hf : fitB c = true) (hb : Kfa c) : Ket (Kbk c) = some c := by
 obtain ⟨h0, h1, h2, h3, h4, h5, h6⟩ := Kex.1 hf
 have hmem : ∀ s ∈ c.series, ∀ x ∈ texts s.labels, x ∈ tabOf (Kae c) := by
  intro s hs x hx; rw [(Kei (Kae c)).2]; exact List.mem_flatMap.2 ⟨s.labels, List.mem_map.2 ⟨s, hs, rfl⟩, hx⟩
 obtain ⟨res, hres⟩ : ∃ res : Nat, c.res = (res : Int) := ⟨c.res.toNat, by omega⟩; have hm0 : (metaB c).drop 0 = uintT res ++ (intT c.frm ++ intT c.to_) := by rw [List.drop_zero, metaB, hres, Int.toNat_natCast]
 obtain ⟨e1, k1⟩ := ru_of (by omega) hm0; obtain ⟨e2, k2⟩ := ri_of (by omega) (by omega) k1; have k2' : (metaB c).drop (0 + (uintT res).length + (intT c.frm).length) = intT c.to_ ++ [] := by rw [k2, List.append_nil]
 obtain ⟨e3, k3⟩ := ri_of (by omega) (by omega) k2'; have hi0 : (Kbe c).drop 0 = tabT (tabOf (Kae c)) ++ (uintT c.series.length ++ (c.series.flatMap (serT (tabOf (Kae c))) ++ Kbj (Kae c))) := rfl; obtain ⟨e4, k4⟩ := Kql (Kei (Kae c)).1 hb.tn hb.t hi0; obtain ⟨e5, k5⟩ := ru_of (Nat.lt_trans hb.n (by decide)) k4
 have hle : 0 + (tabT (tabOf (Kae c))).length + (uintT c.series.length).length ≤ (Kbe c).length := by
  unfold Kbe; simp only [List.length_append]; omega
 have hck : (Kcm c).drop 0 = c.series.flatMap (fun s => (Kak s).flatten) ++ [] := by rw [List.drop_zero, List.append_nil]; rfl
 have hmin : min res 9 = res := by omega
 obtain ⟨e6, _⟩ := Kni (Kei (Kae c)).1 hb.tn hres h2 h4 (I := Kbe c) (C := Kcm c) c.series [] (fun s hs => ⟨Kiq (h5 s hs).1, hmem s hs, (h5 s hs).2, hb.ser s hs, hb.p s hs⟩) hle (Nat.zero_le _) k5 hck
 have hp : Kgc (Kbk c) = some c := by
  unfold Kgc Kbk; simp only [Klt]; rw [e1]; dsimp only; rw [e2]; dsimp only; rw [e3]; dsimp only; rw [e4]; dsimp only; rw [e5, hmin]; dsimp only; rw [e6]; dsimp only; rw [← hres]; rfl
 unfold Ket; rw [hp]; dsimp only; rw [if_pos ⟨hf, rfl⟩]
def Kbq : List (List UInt8) → Nat
 | [] => 190
 | s :: l => match Kau s with
  | .error e => e
  | .ok _ => Kbq l
end Go.Proofs.YtdoiekknhnbepaaGreatDoor
namespace Go.Proofs.YtdoiekknhnbepaaGreatDoor
open Go.RowKit
open Lib renaming hid → Jh
attribute [local go_sem ↓] Go.wp_at_zero Go.wp_at_succ
attribute [local go_sem] Later.cell
theorem Klz {s : List UInt8} {c : Nat} (h : Kau s = .error c) : c = 20 ∨ c = 33 ∨ c ≠ 0 := by
 by_cases h0 : c = 0
 ·subst h0; unfold Kau at h
  split at h
  ·injection h with h; omega
  ·split at h
   ·cases h
   ·injection h with h; omega
 ·exact .inr (.inr h0)
def OpenO (w : World) (r : Except Nat (List UInt8)) (e : Ending) (w' : World) : Prop := match r with
 | .ok b => ∃ p, e = .returned (.pointer (some ⟨p, 0, none⟩)) ∧ w.heap.size ≤ p ∧ Rdr p ⟨b.toArray⟩ 0 w' ∧ Below w.heap.size w w'
 | .error _ => (∃ f, f ≠ 0 ∧ e = Kaq f) ∧ Below w.heap.size w w'
set_option maxHeartbeats 1000000 in
theorem Kgk (s : ByteArray) (hs : s.size ≤ 140737488351232) (w : World) (hT : Kca w) : Calls Tryz.prog 76 #[.string s] w (OpenO w (Kau s.data.toList)) := by
 have hu := Kkb s hs w hT; obtain ⟨R, hR⟩ : ∃ R, Kau s.data.toList = R := ⟨_, rfl⟩; rw [hR] at hu ⊢
 cases R with
 | error c =>
  have hc : c ≠ 0 := by
   rcases Klz hR with h | h | h
   ·omega
   ·omega
   ·exact h
  have e0 : ((c : Int) != 0) = true := by simp; omega
  have HU := Jh hu; clear hu hR; go_enter Tryz.func76, Tryz.ntmps76
  go_wp2_with fail
  refine HU.out.mono ?_; rintro _ w1 ⟨rfl, hb⟩; have HB := Jh hb; clear hb; go_wp2_with fail
  refine Kag rfl ?_; exact ⟨⟨c, hc, rfl⟩, HB.out⟩
 | ok b =>
  obtain ⟨X, hX⟩ : ∃ X : ByteArray, (⟨b.toArray⟩ : ByteArray) = X := ⟨_, rfl⟩; unfold OpenO; dsimp only at hu ⊢; rw [hX] at hu ⊢; have HU := Jh hu; clear hu hR hX; go_enter Tryz.func76, Tryz.ntmps76
  go_wp2_with fail
  refine HU.out.mono ?_; rintro _ w1 ⟨rfl, hb⟩; have HB := Jh hb; clear hb; go_wp2_with fail
  go_ret
  exact ⟨_, rfl, HB.out.size, Blk.new _ _ _, HB.out.alloc HB.out.size _⟩
set_option maxHeartbeats 2000000 in
theorem Klv (l : List Txt) (A : Option Addr) (n c : Nat) (w : World) (h : Strs w A n l) (hn : n ≤ 1048576) (hz : ∀ x ∈ l, x.length ≤ 140737488351232) (hT : Kca w) :
  Calls Tryz.prog 75 #[.slice A n c] w fun e w' => e = .returned (.int .i64 (Kbq l : Nat)) ∧ Below w.heap.size w w' := by
 have HL := Jh h.len; have HS := Jh h; have HT := Jh hT; have HZ := Jh hz; obtain ⟨R, hR⟩ : ∃ R, Kbq l = R := ⟨_, rfl⟩; rw [hR]; have HR := Jh hR; clear h hT hR hz; go_enter Tryz.func75, Tryz.ntmps75
 go_wp2_with fail
 go_loopg [9] n (fun g s9 wr => ∃ i : Nat, i + g = n ∧ s9 = .int .i64 (i : Int) ∧ Kbq (l.drop i) = R ∧ Below w.heap.size w wr)
 case atStart => exact ⟨0, by omega, rfl, by rw [List.drop_zero]; exact HR.out, Below.refl _ _⟩
 case round =>
  obtain ⟨i, hig, rfl, hbl, hbr⟩ := hrel; have HIG := Jh hig; have HBL := Jh hbl; have HBR := Jh hbr; clear hig hbl
  by_cases hi : i < n
  ·have el : decide (i < n) = true := by rw [decide_eq_true_eq]; omega
   have hil : i < l.length := by have := HL.out; omega
   obtain ⟨b, off, hA, hb, hc⟩ := (HS.out.below hbr).at_ hi; subst hA; have hd : l.drop i = l[i]! :: l.drop (i + 1) := by rw [getElem!_pos l i hil]; exact List.drop_eq_getElem_cons hil
   have hzi := HZ.out l[i]! (by rw [getElem!_pos l i hil]; exact List.getElem_mem hil); have hbl := HBL.out; rw [hd, Kbq] at hbl; obtain ⟨x, hx⟩ : ∃ x, l[i]! = x := ⟨_, rfl⟩; rw [hx] at hc hzi hbl; unfold txtV at hc; obtain ⟨X, hX⟩ : ∃ X : ByteArray, (⟨x.toArray⟩ : ByteArray) = X := ⟨_, rfl⟩; have hXd : X.data.toList = x := by rw [← hX]
   have hXs : X.size ≤ 140737488351232 := by rw [← Kaf, hXd]; exact hzi
   rw [hX] at hc; have hu := Kkb X hXs wr (Kca.below HT.out HT.out.lt HBR.out); rw [hXd] at hu; clear hd hx hX hXd hzi hXs
   cases hr : Kau x with
   | error cc =>
    rw [hr] at hu hbl
    have hc0 : cc ≠ 0 := by
     rcases Klz hr with h | h | h
     ·omega
     ·omega
     ·exact h
    have e0 : ((cc : Int) != 0) = true := by simp; omega
    have HU := Jh hu; have HBL2 := Jh hbl; clear hu hbl hr hbr; go_wp2_with fail
    refine HU.out.mono ?_; rintro _ w1 ⟨rfl, hb1⟩; have HB1 := Jh (then_ HBR.out hb1); clear hb1; go_wp2_with fail
    go_ret
    exact ⟨Klb (by rw [← HBL2.out]), HB1.out⟩
   | ok bb =>
    rw [hr] at hu hbl; obtain ⟨Y, hY⟩ : ∃ X : ByteArray, (⟨bb.toArray⟩ : ByteArray) = X := ⟨_, rfl⟩; dsimp only at hu hbl; rw [hY] at hu; have HU := Jh hu; have HBL2 := Jh hbl; clear hu hbl hr hbr hY; go_wp2_with fail
    refine HU.out.mono ?_; rintro _ w1 ⟨rfl, hb1⟩; have HB1 := Jh (then_ HBR.out hb1); clear hb1; go_wp2_with fail
    go_roundg (gk - 1)
    case measure => have := HIG.out; omega
    case rel => exact ⟨i + 1, by have := HIG.out; omega, by go_num, HBL2.out, HB1.out⟩
  ·have el : decide (i < n) = false := by rw [decide_eq_false_iff_not]; omega
   have hre : 190 = R := by
    have h1 := HBL.out; rw [List.drop_eq_nil_of_le (by have := HL.out; omega)] at h1; exact h1
   have HRE := Jh hre; clear hre; go_wp2_with fail
   go_ret
   exact ⟨Klb (by rw [← HRE.out]; rfl), HBR.out⟩
end Go.Proofs.YtdoiekknhnbepaaGreatDoor
namespace Go.Proofs.YtdoiekknhnbepaaGreatDoor
open Go.RowKit
def skipR (I : List UInt8) : Nat → Nat → Option Nat
 | 0, i => some i
 | k + 1, i => match ruAt I i with
  | none => none
  | some (_, i') => skipR I k i'
def setsR (t : List Txt) (I : List UInt8) : Nat → List (List Lb) → Nat → Option (List (List Lb) × Nat)
 | 0, S, i => some (S, i)
 | g + 1, S, i => if (unpR t I i).2.2 ≠ 0 then none else match ruAt I (unpR t I i).2.1 with
  | none => none
  | some (k, i2) => match skipR I k i2 with
   | none => none
   | some i3 => setsR t I g (S ++ [(unpR t I i).1]) i3
def keysR (I : List UInt8) (q : Lb) : Nat → List Nat → Nat → Option (List Nat × Nat)
 | 0, out, i => some (out, i)
 | g + 1, out, i => if (Kbg I i).2.2 ≠ 0 then none else if (Kbg I (Kbg I i).2.1).2.2 ≠ 0 then none else match postR I (Kbg I (Kbg I i).2.1).2.1 with
  | none => none
  | some (l, i3) => keysR I q g (if (⟨(Kbg I i).1, (Kbg I (Kbg I i).2.1).1⟩ : Lb) = q then l else out) i3
def Kif (I : List UInt8) (q : Lb) : Option (List Nat) := match tabR I 0 with
 | none => none
 | some (t, i0) => match ruAt I i0 with
  | none => none
  | some (n, i1) => match setsR t I n [] i1 with
   | none => none
   | some (S, i2) => match ruAt I i2 with
    | none => none
    | some (k, i3) => match keysR I q k [] i3 with
     | none => none
     | some (out, i4) => if i4 = I.length ∧ Kbj S = I.drop i2 then some out else none
theorem Koo {I : List UInt8} : ∀ (P : List (List UInt8)) {i : Nat} {r : List UInt8}, (∀ p ∈ P, p.length < 2 ^ 64) → I.drop i = lensT P ++ r → skipR I P.length i = some (i + (lensT P).length) ∧ I.drop (i + (lensT P).length) = r
 | [], i, r, _, h => ⟨rfl, by simpa [lensT] using h⟩
 | p :: P, i, r, hn, h => by
  have h' : I.drop i = uintT p.length ++ (lensT P ++ r) := by rw [h]; simp [lensT]
  obtain ⟨e1, e2⟩ := ru_of (hn p (by simp)) h'; obtain ⟨e3, e4⟩ := Koo P (fun q hq => hn q (by simp [hq])) e2; have hl : (lensT (p :: P)).length = (uintT p.length).length + (lensT P).length := by simp [lensT]
  rw [List.length_cons, skipR, e1]; dsimp only; rw [e3, hl, ← Nat.add_assoc]; exact ⟨rfl, e4⟩
theorem Kow {t : List Txt} (ha : Asc t) (ht : t.length < 2 ^ 64) {I : List UInt8} :
  ∀ (L : List Ser) (S : List (List Lb)) {i : Nat} {r : List UInt8}, (∀ s ∈ L, Kcp s.labels = 0 ∧ (∀ x ∈ texts s.labels, x ∈ t) ∧ (Kak s).length < 2 ^ 64 ∧ ∀ p ∈ Kak s, p.length < 2 ^ 64) → i ≤ I.length → I.drop i = L.flatMap (serT t) ++ r →
  setsR t I L.length S i = some (S ++ L.map Ser.labels, i + (L.flatMap (serT t)).length) ∧ I.drop (i + (L.flatMap (serT t)).length) = r
 | [], S, i, r, _, _, hI => ⟨by simp [setsR], by simpa using hI⟩
 | s :: L, S, i, r, hs, hi, hI => by
  obtain ⟨he, hm, hc, hp⟩ := hs s (by simp); have hI1 : I.drop i = pk t s.labels ++ (uintT (Kak s).length ++ (lensT (Kak s) ++ (L.flatMap (serT t) ++ r))) := by rw [hI]; simp [serT]
  obtain ⟨e1, e2⟩ := Kqt ha ht he hm hi hI1; obtain ⟨e3, e4⟩ := ru_of hc e2; obtain ⟨e5, e6⟩ := Koo (Kak s) hp e4
  have hi2 : i + (pk t s.labels).length + (uintT (Kak s).length).length + (lensT (Kak s)).length ≤ I.length := by
   have := congrArg List.length hI1; simp only [List.length_drop, List.length_append] at this; have h3 := (Kab (Kak s).length).1; omega
  obtain ⟨e9, e10⟩ := Kow ha ht L (S ++ [s.labels]) (fun q hq => hs q (by simp [hq])) hi2 e6; have hl : ((s :: L).flatMap (serT t)).length = (pk t s.labels).length + (uintT (Kak s).length).length + (lensT (Kak s)).length + (L.flatMap (serT t)).length := by simp [serT]; omega
  rw [List.length_cons, setsR, e1]; dsimp only; rw [if_neg (by simp), e3]; dsimp only; rw [e5]; dsimp only; rw [e9, hl]; refine ⟨?_, ?_⟩
  ·rw [List.append_assoc]; simp only [List.singleton_append, List.map_cons, Option.some.injEq, Prod.mk.injEq, true_and]; omega
  ·rw [← e10]; congr 1; omega
theorem Koi {I : List UInt8} {S : List (List Lb)} (hS : S.length ≤ 4611686018427387904) (q : Lb) : ∀ (K : List Lb) (out : List Nat) {i : Nat} {r : List UInt8}, K.Pairwise ltB → (∀ x ∈ K, x.n.length < 2 ^ 64 ∧ x.v.length < 2 ^ 64) → I.drop i = K.flatMap (keyT S) ++ r →
  keysR I q K.length out i = some (if q ∈ K then Kaj S q else out, i + (K.flatMap (keyT S)).length) ∧ I.drop (i + (K.flatMap (keyT S)).length) = r
 | [], out, i, r, _, _, h => ⟨by simp [keysR], by simpa using h⟩
 | x :: K, out, i, r, hp, hz, h => by
  have hc := List.pairwise_cons.1 hp; have h' : I.drop i = textT x.n ++ (textT x.v ++ (postT (Kaj S x) ++ (K.flatMap (keyT S) ++ r))) := by rw [h]; simp [keyT]
  obtain ⟨e1, e2⟩ := Kgv (hz x (by simp)).1 h'; obtain ⟨e3, e4⟩ := Kgv (hz x (by simp)).2 e2; have hl0 := Kfs S x; obtain ⟨e5, e6⟩ := Qak (Kua hS x) (by omega) e4; obtain ⟨e7, e8⟩ := Koi hS q K (if x = q then Kaj S x else out) hc.2 (fun y hy => hz y (by simp [hy])) e6; have hl : ((x :: K).flatMap (keyT S)).length = (textT x.n).length + (textT x.v).length + (postT (Kaj S x)).length + (K.flatMap (keyT S)).length := by simp [keyT]; omega
  have hx : (⟨x.n, x.v⟩ : Lb) = x := rfl; rw [List.length_cons, keysR, e1]; dsimp only; rw [if_neg (by simp), e3]; dsimp only; rw [if_neg (by simp), e5]; dsimp only; rw [e7, hl]; refine ⟨?_, ?_⟩
  ·simp only [Option.some.injEq, Prod.mk.injEq]; refine ⟨?_, by omega⟩
   by_cases hq : x = q
   ·subst hq; have : x ∉ K := fun hm => Keb x (hc.1 x hm)
    rw [if_neg this, if_pos rfl, if_pos (by simp)]
   ·rw [if_neg hq]
    have : (q ∈ x :: K) ↔ q ∈ K := by
     rw [List.mem_cons]; exact ⟨fun h => h.resolve_left (fun e => hq e.symm), .inr⟩
    by_cases hk : q ∈ K
    ·rw [if_pos hk, if_pos (this.2 hk)]
    ·rw [if_neg hk, if_neg (fun h => hk (this.1 h))]
  ·rw [← e8]; congr 1; omega
theorem Kkc {S : List (List Lb)} {q : Lb} (h : q ∉ keysOf S) : Kaj S q = [] := by
 unfold Kaj; rw [List.filter_eq_nil_iff]; intro i hi; rw [decide_eq_true_eq]; intro hm; apply h; rw [(Kej S).2]; have hl := List.mem_range.1 hi; rw [List.getD_eq_getElem?_getD, List.getElem?_eq_getElem hl] at hm; exact ⟨S[i], List.getElem_mem hl, hm⟩
theorem Kzt {c : Cont} (hf : fitB c = true) (hb : Kfa c) (hz : ∀ x ∈ keysOf (Kae c), x.n.length < 2 ^ 64 ∧ x.v.length < 2 ^ 64) (hk : (keysOf (Kae c)).length < 2 ^ 64) (q : Lb) : Kif (Kbe c) q = some (Kaj (Kae c) q) := by
 obtain ⟨h0, h1, h2, h3, h4, h5, h6⟩ := Kex.1 hf
 have hmem : ∀ s ∈ c.series, ∀ x ∈ texts s.labels, x ∈ tabOf (Kae c) := by
  intro s hs x hx; rw [(Kei (Kae c)).2]; exact List.mem_flatMap.2 ⟨s.labels, List.mem_map.2 ⟨s, hs, rfl⟩, hx⟩
 have hi0 : (Kbe c).drop 0 = tabT (tabOf (Kae c)) ++ (uintT c.series.length ++ (c.series.flatMap (serT (tabOf (Kae c))) ++ Kbj (Kae c))) := rfl; obtain ⟨e4, k4⟩ := Kql (Kei (Kae c)).1 hb.tn hb.t hi0; obtain ⟨e5, k5⟩ := ru_of (Nat.lt_trans hb.n (by decide)) k4
 have hle : 0 + (tabT (tabOf (Kae c))).length + (uintT c.series.length).length ≤ (Kbe c).length := by
  unfold Kbe; simp only [List.length_append]; omega
 have hpn : ∀ s ∈ c.series, (Kak s).length < 2 ^ 64 := by
  intro s hs; have a1 := Kdt s.samples.length s.samples; have a2 : (aggsT s.windows).length ≤ 1 := by cases s.windows <;> simp [aggsT]
  have a3 := (hb.ser s hs).n; unfold Kak; rw [List.length_append, List.length_map]; omega
 obtain ⟨e6, k6⟩ := Kow (Kei (Kae c)).1 hb.tn c.series [] (fun s hs => ⟨Kiq (h5 s hs).1, hmem s hs, hpn s hs, hb.p s hs⟩) hle k5; have k6' := k6; unfold Kbj at k6'; obtain ⟨e7, k7⟩ := ru_of hk k6'
 have hS : (Kae c).length ≤ 4611686018427387904 := by
  have := hb.n; unfold Kae; rw [List.length_map]; omega
 have k7' : (Kbe c).drop _ = (keysOf (Kae c)).flatMap (keyT (Kae c)) ++ [] := k7.trans (List.append_nil _).symm; obtain ⟨e8, k8⟩ := Koi hS q (keysOf (Kae c)) [] (Kej _).1 hz k7'
 have hout : (if q ∈ keysOf (Kae c) then Kaj (Kae c) q else []) = Kaj (Kae c) q := by
  split
  ·rfl
  ·rename_i h; exact (Kkc h).symm
 rw [hout] at e8
 have hend : 0 + (tabT (tabOf (Kae c))).length + (uintT c.series.length).length + (c.series.flatMap (serT (tabOf (Kae c)))).length + (uintT (keysOf (Kae c)).length).length + ((keysOf (Kae c)).flatMap (keyT (Kae c))).length = (Kbe c).length := by
  unfold Kbe Kbj; simp only [List.length_append]; omega
 unfold Kif; rw [e4]; dsimp only; rw [e5]; dsimp only; rw [e6]; dsimp only; rw [e7]; dsimp only; rw [e8]; dsimp only; rw [if_pos ⟨hend, k6.symm⟩]
end Go.Proofs.YtdoiekknhnbepaaGreatDoor
namespace Go.Proofs.YtdoiekknhnbepaaGreatDoor
open Go.RowKit
attribute [local go_sem ↓] Go.wp_at_zero Go.wp_at_succ
attribute [local go_sem] Later.cell
def wndV (w : Wnd) : Value := .agg #[.int .i64 w.start, .int .i64 w.count, .int .u64 (w.sum : Int), .int .u64 (w.min : Int), .int .u64 (w.max : Int), .int .u64 (w.last : Int)]
def Kcw (w a : Wnd) (first : Bool) : Nat :=
 if w.start < 0 ∨ 1125899906842624 < w.start then 91 else if first = false ∧ w.start ≤ a.start then 90 else if w.count < 1 ∨ 4611686018427387904 < w.count then 110 else 0
theorem Kgh (w a : Wnd) (first : Bool) : Kcw w a first = 0 ↔ Kcx w a first = 0 := by
 unfold Kcw Kcx
 split
 ·simp
 ·split
  ·simp
  ·split <;> simp
set_option maxRecDepth 100000 in
set_option maxHeartbeats 2000000 in
theorem Kjn (x a : Wnd) (first : Bool) (w : World) :
  Calls Tryz.prog 155 #[wndV x, wndV a, .bool first] w fun e w' => e = .returned (.int .i64 (Kcw x a first : Nat)) ∧ Below w.heap.size w w' := by
 obtain ⟨r, hr⟩ : ∃ r, Kcw x a first = r := ⟨_, rfl⟩
 rw [hr]; unfold Kcw at hr
 have hb : Below w.heap.size w ((w.alloc (.cells #[.int .i64 x.start, .int .i64 x.count, .int .u64 (x.sum : Int), .int .u64 (x.min : Int), .int .u64 (x.max : Int), .int .u64 (x.last : Int)] 135)).alloc (.cells #[.int .i64 a.start, .int .i64 a.count, .int .u64 (a.sum : Int), .int .u64 (a.min : Int), .int .u64 (a.max : Int), .int .u64 (a.last : Int)] 135)) :=
  ((Below.refl _ _).alloc (Nat.le_refl _) _).alloc (by simp) _
 have HB := Lib.hid hb; unfold wndV
 by_cases b1 : x.start < 0
 ·rw [if_pos (.inl b1)] at hr; subst hr; have d1 : decide (x.start < 0) = true := decide_eq_true b1; go_enter Tryz.func155, Tryz.ntmps155
  go_wp2_with fail
  go_ret
  exact ⟨rfl, HB.out⟩
 have d1 : decide (x.start < 0) = false := decide_eq_false b1
 by_cases b2 : 1125899906842624 < x.start
 ·rw [if_pos (.inr b2)] at hr; subst hr; have d2 : decide (1125899906842624 < x.start) = true := decide_eq_true b2; go_enter Tryz.func155, Tryz.ntmps155
  go_wp2_with fail
  go_ret
  exact ⟨rfl, HB.out⟩
 have d2 : decide (1125899906842624 < x.start) = false := decide_eq_false b2; rw [if_neg (by omega)] at hr
 by_cases b3 : first = false ∧ x.start ≤ a.start
 ·obtain ⟨rfl, b3⟩ := b3; rw [if_pos ⟨rfl, b3⟩] at hr; subst hr; have d3 : decide (x.start ≤ a.start) = true := decide_eq_true b3; go_enter Tryz.func155, Tryz.ntmps155
  go_wp2_with fail
  go_ret
  exact ⟨rfl, HB.out⟩
 rw [if_neg b3] at hr; have HF : Hid (first = true ∨ (first = false ∧ ¬ x.start ≤ a.start)) := Lib.hid (by cases first <;> simp_all); clear b3
 by_cases b4 : x.count < 1
 ·rw [if_pos (.inl b4)] at hr; subst hr; have d4 : decide (x.count < 1) = true := decide_eq_true b4; rcases HF.out with rfl | ⟨rfl, b3⟩
  ·go_enter Tryz.func155, Tryz.ntmps155
   go_wp2_with fail
   go_ret
   exact ⟨rfl, HB.out⟩
  ·have d3 : decide (x.start ≤ a.start) = false := decide_eq_false b3; go_enter Tryz.func155, Tryz.ntmps155
   go_wp2_with fail
   go_ret
   exact ⟨rfl, HB.out⟩
 have d4 : decide (x.count < 1) = false := decide_eq_false b4
 by_cases b5 : 4611686018427387904 < x.count
 ·rw [if_pos (.inr b5)] at hr; subst hr; have d5 : decide (4611686018427387904 < x.count) = true := decide_eq_true b5; rcases HF.out with rfl | ⟨rfl, b3⟩
  ·go_enter Tryz.func155, Tryz.ntmps155
   go_wp2_with fail
   go_ret
   exact ⟨rfl, HB.out⟩
  ·have d3 : decide (x.start ≤ a.start) = false := decide_eq_false b3; go_enter Tryz.func155, Tryz.ntmps155
   go_wp2_with fail
   go_ret
   exact ⟨rfl, HB.out⟩
 have d5 : decide (4611686018427387904 < x.count) = false := decide_eq_false b5; rw [if_neg (by omega)] at hr; subst hr; rcases HF.out with rfl | ⟨rfl, b3⟩
 ·go_enter Tryz.func155, Tryz.ntmps155
  go_wp2_with fail
  go_ret
  exact ⟨rfl, HB.out⟩
 ·have d3 : decide (x.start ≤ a.start) = false := decide_eq_false b3; go_enter Tryz.func155, Tryz.ntmps155
  go_wp2_with fail
  go_ret
  exact ⟨rfl, HB.out⟩
def fldsV (q : Nat) : Value := .agg #[.pointer (some ⟨q, 2, none⟩), .pointer (some ⟨q, 3, none⟩), .pointer (some ⟨q, 4, none⟩), .pointer (some ⟨q, 5, none⟩)]
set_option maxRecDepth 100000 in
set_option maxHeartbeats 2000000 in
theorem Kgz (q : Nat) (w : World) : Calls Tryz.prog 154 #[.pointer (some ⟨q, 0, none⟩)] w fun e w' => e = .returned (fldsV q) ∧ Below w.heap.size w w' := by
 go_enter Tryz.func154, Tryz.ntmps154
 go_upto_region 1 with fail
 have hb : Below w.heap.size w (w.alloc (.cells #[.pointer none, .pointer none, .pointer none, .pointer none] 246)) := (Below.refl _ _).alloc (Nat.le_refl _) _; have hq : Blk (w.alloc (.cells #[.pointer none, .pointer none, .pointer none, .pointer none] 246)) w.heap.size 246 #[.pointer none, .pointer none, .pointer none, .pointer none] := Blk.new _ _ _; obtain ⟨w1, hw1⟩ : ∃ w1, w.alloc (.cells #[.pointer none, .pointer none, .pointer none, .pointer none] 246) = w1 := ⟨_, rfl⟩; obtain ⟨p, hp⟩ : ∃ p, w.heap.size = p := ⟨_, rfl⟩; rw [hw1, hp] at hb hq; rw [hw1]; rw [hp]; clear hw1; refine Kai 13 (by kernel_rfl) (by kernel_rfl) ?_; simp only [List.take_succ_cons, List.take_zero, List.drop_succ_cons, List.drop_zero]
 repeat (go_big_quiet_step (fail))
 refine wpQuiet_nil ?_; rintro w2 ⟨⟨_, hb2⟩, rfl⟩; have hq2 := hq.below hb2 hq.lt; have p0 : w2.cell? ⟨p, 0, none⟩ = some (.pointer none) := hq2.cell 0; have p1 : w2.cell? ⟨p, 1, none⟩ = some (.pointer none) := hq2.cell 1; have p2 : w2.cell? ⟨p, 2, none⟩ = some (.pointer none) := hq2.cell 2; have p3 : w2.cell? ⟨p, 3, none⟩ = some (.pointer none) := hq2.cell 3; have z := hq2.frozen; have z0 := z 0; have z1 := z 1; have z2 := z 2; have z3 := z 3; clear z; go_wp2_with fail
 have hq3 := (((hq2.set_ 0 (.pointer (some ⟨q, 2, none⟩))).set_ 1 (.pointer (some ⟨q, 3, none⟩))).set_ 2 (.pointer (some ⟨q, 4, none⟩))).set_ 3 (.pointer (some ⟨q, 5, none⟩)); have hb3 := ((((hb.trans (hb2.mono (by have := hb.size; omega))).setCell (p := ⟨p, 0, none⟩) (Nat.le_refl _) (.pointer (some ⟨q, 2, none⟩))).setCell (p := ⟨p, 1, none⟩) (Nat.le_refl _) (.pointer (some ⟨q, 3, none⟩))).setCell (p := ⟨p, 2, none⟩) (Nat.le_refl _) (.pointer (some ⟨q, 4, none⟩))).setCell (p := ⟨p, 3, none⟩) (Nat.le_refl _) (.pointer (some ⟨q, 5, none⟩)); refine bodyPost_ret (Kdx rfl _ _ ⟨p, 0, none⟩ _ rfl (run_loadVar_row _ p 246 246 _ (0, 0) _ hq3 Tryz.underlying246 rfl (by kernel_rfl))) rfl ?_; exact ⟨rfl, by rw [hp]; exact hb3⟩
end Go.Proofs.YtdoiekknhnbepaaGreatDoor
