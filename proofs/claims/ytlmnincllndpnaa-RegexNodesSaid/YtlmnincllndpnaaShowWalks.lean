/- The walks of layer 6 (regex): hex, stretches. -/
import Derived.Test.YtlmnincllndpnaaRexParse
import Derived.Test.YtlmnincllndpnaaShowPlain
import Derived.Test.YtlmnincllndpnaaShelfR2
import Derived.Maps.AppendAt
namespace Go.Proofs.Ytlmnincllndpnaa
open Go.RowKit
attribute [local go_sem ↓] Go.wp_at_zero Go.wp_at_succ
attribute [local go_sem] Later.cell Later.frozen

def digits : ByteArray := ⟨#[48, 49, 50, 51, 52, 53, 54, 55, 56, 57, 97, 98, 99, 100, 101, 102]⟩
theorem digits_at (k : Nat) (hk : k < 16) : digits.extract k (k + 1) = ⟨#[digit k]⟩ := by
  have : ∀ k : Fin 16, digits.extract k.val (k.val + 1) = ⟨#[digit k.val]⟩ := by decide +kernel
  exact this ⟨k, hk⟩

set_option maxHeartbeats 1000000 in
theorem hex_calls (b : Nat) (hb : b < 256) (w : World) :
    Calls Try.prog 42 #[.int .i64 b] w fun e w' => e = .returned (.string ⟨(hexT b).toArray⟩) ∧ Below w.heap.size w w' := by
  have hfin : digits.extract (b / 16) (b / 16 + 1) ++ digits.extract (b % 16) (b % 16 + 1) = ⟨(hexT b).toArray⟩ := by
    rw [digits_at _ (by omega), digits_at _ (by omega)]
    rfl
  have HF := Lib.hid hfin
  clear hfin
  go_enter Try.func42, Try.ntmps42
  go_wp2_with fail
  have z1 : IntKind.i64.wrap ((b : Int) / 16 + 1) = (b : Int) / 16 + 1 := IntWalk.i64_in _ (by omega)
  have z2 : (0 : Int) ≤ (b : Int) / 16 + 1 := by omega
  have z3 : ((b : Int) / 16 + 1).toNat = b / 16 + 1 := by omega
  have z4 : ((b : Int) / 16).toNat = b / 16 := by omega
  have z5 : (0 : Int) ≤ (b : Int) / 16 := by omega
  have y1 : IntKind.i64.wrap ((b : Int) % 16 + 1) = (b : Int) % 16 + 1 := IntWalk.i64_in _ (by omega)
  have y2 : (0 : Int) ≤ (b : Int) % 16 + 1 := by omega
  have y3 : ((b : Int) % 16 + 1).toNat = b % 16 + 1 := by omega
  have y4 : ((b : Int) % 16).toNat = b % 16 := by omega
  have y5 : (0 : Int) ≤ (b : Int) % 16 := by omega
  have x1 : (b : Int) / 16 + 1 ≤ 16 := by omega
  have x2 : (b : Int) % 16 + 1 ≤ 16 := by omega
  go_quiet (fail)
  clear z1 z2 z3 z4 z5 y1 y2 y3 y4 y5 x1 x2
  go_wp2_with fail
  go_ret
  exact ⟨congrArg (fun s => Ending.returned (Value.string s)) HF.out, below_drewN (Below.refl _ _) _⟩

theorem info_str : (Try.prog.info? 9).map (fun i => (i.zero, i.size, i.bytes)) = some (some (.string ⟨#[]⟩), 1, 16) := by kernel_rfl
theorem grown_of_below {a w : World} (h : Below a.heap.size a w) (row : Option Nat) : a.grownBy w row := ⟨h.os, h.tape, h.output, h.size, fun i hi _ => h.block i hi⟩
theorem own_later {w w1 : World} {base : Nat} {e : TypeId} {size : Nat} {v : Value} {n : Nat} {xs : List Value} (h : w.ownsRow base e size v n xs) (hb : Below w.heap.size w w1) : w1.ownsRow base e size v n xs :=
  h.kept (grown_of_below hb none) (by cases hv : v.ownBlock <;> simp)

theorem flatMap_str (xs : List ByteArray) : xs.map Value.string = xs.flatMap (fun x => [Value.string x]) := by
  induction xs with
  | nil => rfl
  | cons x xs ih => simp [ih]
theorem mk_str {s : ByteArray} {l : List UInt8} (h : s.data.toList = l) : s = ⟨l.toArray⟩ := by
  subst h
  rfl

/-- While the stretches are gathered. -/
structure SMem (w wr : World) (v : Nat) (sv : Value) (xs : List ByteArray) : Prop where
  own : wr.ownsRow (w.heap.size + 1) 9 1 sv xs.length (xs.map Value.string)
  box : Blk wr w.heap.size 45 #[.int .u64 (word v 0), .int .u64 (word v 1), .int .u64 (word v 2), .int .u64 (word v 3)]
  below : Below w.heap.size w wr
  size : w.heap.size + 1 ≤ wr.heap.size
theorem SMem.later {w wr w1 : World} {v : Nat} {sv : Value} {xs : List ByteArray} (h : SMem w wr v sv xs) (hb : Below wr.heap.size wr w1) : SMem w w1 v sv xs :=
  ⟨own_later h.own hb, h.box.below hb h.box.lt, h.below.trans (hb.mono h.below.size), Nat.le_trans h.size hb.size⟩

set_option maxRecDepth 100000 in
set_option maxHeartbeats 2000000 in
theorem stretches_calls (v : Nat) (w : World) :
    Calls Try.prog 32 #[setVal v] w fun e w' => e = .returned (.string ⟨(strT v).toArray⟩) ∧ Below w.heap.size w w' := by
  obtain ⟨i0, hi0, hz0, hz1, hz2⟩ := info_parts info_str
  unfold setVal
  go_enter Try.func32, Try.ntmps32
  go_wp2_with fail
  go_loopg [3, 4] 257 (fun g s3 s4 wr => ∃ (b : Nat) (xs : List ByteArray), 256 - b < g ∧ b ≤ 256 ∧ s4 = .int .i64 (b : Nat) ∧ xs.map (·.data.toList) ++ scanAll v b = scanAll v 0 ∧ SMem w wr v s3 xs)
  case atStart => exact ⟨0, [], by omega, by omega, rfl, rfl, World.ownsRow_nil _ _ _ _, Blk.new _ _ _, by go_grown, by simp⟩
  case round =>
    obtain ⟨b, xs, hg, hb, rfl, hsc, hM⟩ := hrel
    have HSC := Lib.hid hsc
    clear hsc
    obtain ⟨wo, rfl⟩ : ∃ wo, wo = wr := ⟨_, rfl⟩
    by_cases hlt : b < 256
    · have b0 : _ = some (Value.int .u64 (word v 0)) := hM.box.cell 0
      have b1 : _ = some (Value.int .u64 (word v 1)) := hM.box.cell 1
      have b2 : _ = some (Value.int .u64 (word v 2)) := hM.box.cell 2
      have b3 : _ = some (Value.int .u64 (word v 3)) := hM.box.cell 3
      obtain ⟨x, hx⟩ : ∃ x, v.testBit b = x := ⟨_, rfl⟩
      have hcall := has_calls v b hlt wo
      rw [hx] at hcall
      unfold setVal at hcall
      have HX := Lib.hid hx
      have HC := Lib.hid hcall
      clear hx hcall
      go_wp2_with fail
      refine HC.out.mono ?_
      rintro e w1 ⟨rfl, hb1⟩
      have hM1 := hM.later hb1
      clear hM hb1 b0 b1 b2 b3
      cases x with
      | false =>
        go_wp2_with fail
        go_roundg (gk - 1)
        case measure => omega
        case rel => exact ⟨b + 1, xs, by omega, by omega, by go_num, by rw [← scan_no v b hlt HX.out]; exact HSC.out, hM1⟩
      | true =>
        go_upto_block 2 with fail
        clear HC
        go_cut [4] (fun s4 wz => s4 = .int .i64 (upTo v (255 - b) b : Nat) ∧ SMem w wz v u3 xs)
        case first =>
          go_wp2_with fail
          go_loopg [4] 256 (fun g s4 wl => ∃ e : Nat, s4 = .int .i64 (e : Nat) ∧ b ≤ e ∧ e ≤ 255 ∧ 255 - e < g ∧ upTo v (255 - e) e = upTo v (255 - b) b ∧ SMem w wl v u3 xs)
          case atStart => exact ⟨b, rfl, by omega, by omega, by omega, rfl, hM1⟩
          case round =>
            clear hM1
            obtain ⟨e, rfl, he1, he2, he3, hup, hM⟩ := hrel
            have HUP := Lib.hid hup
            clear hup
            by_cases he : e < 255
            · have b0 : _ = some (Value.int .u64 (word v 0)) := hM.box.cell 0
              have b1 : _ = some (Value.int .u64 (word v 1)) := hM.box.cell 1
              have b2 : _ = some (Value.int .u64 (word v 2)) := hM.box.cell 2
              have b3 : _ = some (Value.int .u64 (word v 3)) := hM.box.cell 3
              obtain ⟨x, hx⟩ : ∃ x, v.testBit (e + 1) = x := ⟨_, rfl⟩
              have hcall := has_calls v (e + 1) (by omega) wr
              rw [hx] at hcall
              unfold setVal at hcall
              rw [show ((e + 1 : Nat) : Int) = (e : Int) + 1 by omega] at hcall
              have HX' := Lib.hid hx
              have HC := Lib.hid hcall
              clear hx hcall
              have hstep : upTo v (255 - e) e = if e < 255 ∧ v.testBit (e + 1) = true then upTo v (254 - e) (e + 1) else e := by
                conv => lhs; rw [show 255 - e = (254 - e) + 1 by omega, upTo]
              have HS := Lib.hid hstep
              clear hstep
              go_wp2_with fail
              refine HC.out.mono ?_
              rintro e' w1 ⟨rfl, hb1⟩
              have hM1 := hM.later hb1
              clear hM hb1 b0 b1 b2 b3 HC
              cases x with
              | false =>
                go_wp2_with fail
                go_meet
                refine ⟨vi ?_, hM1⟩
                rw [← HUP.out, HS.out, if_neg (by rw [HX'.out]; simp)]
              | true =>
                go_wp2_with fail
                go_roundg (gk - 1)
                case measure => omega
                case rel =>
                  refine ⟨e + 1, by go_num, by omega, by omega, by omega, ?_, hM1⟩
                  rw [← HUP.out, HS.out, if_pos ⟨he, HX'.out⟩, show 255 - (e + 1) = 254 - e by omega]
            · obtain rfl : e = 255 := by omega
              go_wp2_with fail
              go_meet
              exact ⟨vi (by rw [← HUP.out]; rfl), hM⟩
        case rest =>
          obtain ⟨rfl, hM2⟩ := hcut
          have hle := upTo_le v (255 - b) b
          have hyes := scan_yes v b hlt HX.out
          obtain ⟨e, he⟩ : ∃ e, upTo v (255 - b) b = e := ⟨_, rfl⟩
          rw [he] at hle hyes ⊢
          have HY := Lib.hid hyes
          have he255 := hle.2 (by omega)
          have hl1 : (hexT b).length = 2 := rfl
          have hl2 : (hexT e).length = 2 := rfl
          clear hyes he hM1
          obtain ⟨wy, rfl⟩ : ∃ x, x = wc := ⟨_, rfl⟩
          go_wp2_with fail
          refine (hex_calls b hlt wy).mono ?_
          rintro e' w2 ⟨rfl, hb2⟩
          have hM3 := hM2.later hb2
          clear hM2 hb2
          go_wp2_with fail
          refine (hex_calls e (by omega) w2).mono ?_
          rintro e' w3 ⟨rfl, hb3⟩
          have hM4 := hM3.later hb3
          clear hM3 hb3
          have hxl : xs.length ≤ 257 := by
            have h1 := congrArg List.length HSC.out
            have h2 := (scan_parts v 257 0).2
            rw [List.length_append, List.length_map] at h1
            have h3 : (scanAll v 0).length ≤ 257 := h2
            omega
          have h41 := hM4.size
          go_wp2_with (at_builtin; refine wpList_append_own_at _ rfl _ _ 70 rfl (w.heap.size + 1) 9 i0 (.string ⟨#[]⟩) 1 16 Try.underlying70 hi0 hz0 hz1 hz2 rfl (by decide) _ _ _ rfl (hM4.own.alloc _) ⟨w3.heap.size, 0, none⟩ 1 1 [.string (⟨(hexT b).toArray⟩ ++ ⟨#[45]⟩ ++ ⟨(hexT e).toArray⟩)] rfl rfl ?c1 ?c2 ?c3 ?c4 ?c5 ?_)
          case c1 => exact news_of_blk (l := [.string (⟨(hexT b).toArray⟩ ++ ⟨#[45]⟩ ++ ⟨(hexT e).toArray⟩)]) (Blk.new _ _ _)
          case c2 => intro u hu; simp at hu; subst hu; rfl
          case c3 => unfold maxLen; omega
          case c4 => omega
          case c5 => simp; omega
          rintro v' w5 hown2 hg2 _ hat
          have hM5 : SMem w w5 v v' (xs ++ [⟨(partT b e).toArray⟩]) := by
            have hlt4 := hM4.own.lt
            refine ⟨?_, ?_, ?_, ?_⟩
            · have : ((⟨(hexT b).toArray⟩ : ByteArray) ++ ⟨#[45]⟩ ++ ⟨(hexT e).toArray⟩) = ⟨(partT b e).toArray⟩ := rfl
              rw [this] at hown2
              simpa using hown2
            · exact (hM4.box.alloc _).grown hg2 (fun h => by have := hlt4 _ h.symm; omega)
            · exact ((Kept.of_below (ex := []) (hM4.below.alloc (by omega) _)).grown hg2 (by simp; omega) (fun k hk => by have := hlt4 k hk; right; omega)).below (by simp)
            · have := hg2.size; simp at this; omega
          clear hown2 hg2 hat hM4
          go_wp2_with fail
          go_roundg (256 - e)
          case measure => omega
          case rel =>
            refine ⟨e + 1, xs ++ [⟨(partT b e).toArray⟩], by omega, by omega, by go_num, ?_, hM5⟩
            rw [List.map_append, List.append_assoc, ← HSC.out, HY.out]
            rfl
    · obtain rfl : b = 256 := by omega
      have hall := HSC.out
      rw [scan_end v 256 (by omega), List.append_nil] at hall
      have HALL := Lib.hid hall
      have hxl : xs.length ≤ 257 := by
        have h1 := congrArg List.length hall
        have h2 := (scan_parts v 257 0).2
        rw [List.length_map] at h1
        have h3 : (scanAll v 0).length ≤ 257 := h2
        omega
      have hjl : (Lib.join (xs.map (·.data.toList)) [44]).length ≤ 2000 := by
        rw [hall]
        have := strT_len v
        unfold strT at this
        unfold scanAll
        simp at this
        omega
      obtain ⟨A, c, hv, hE, hge, hcap⟩ := Elems.of_own (enc := fun x : ByteArray => [Value.string x]) (sz := 1) (xs := xs) (by intro x _; rfl) (flatMap_str xs) hM.own rfl
      clear hall
      subst hv
      have hB := hM.below
      by_cases hx0 : xs.length = 0
      · have hxn : xs = [] := List.length_eq_zero_iff.1 hx0
        subst hxn
        have hfin : strT v = [91, 93] := by
          unfold strT
          rw [show scan v 257 0 = [] from HALL.out.symm, Lib.join_nil]
          rfl
        have HF := Lib.hid hfin
        clear hfin hxl hjl hM hE
        go_wp2_with fail
        refine (Try.strings_Join_none A c ⟨#[44]⟩ wo).mono ?_
        rintro e w2 ⟨rfl, rfl⟩
        go_wp2_with fail
        go_ret
        exact ⟨by rw [HF.out]; rfl, hB⟩
      · obtain ⟨bk, off, rfl, hbk, hcell⟩ := hE.2 (by omega)
        obtain ⟨J, hJ⟩ : ∃ J, Lib.join (xs.map (·.data.toList)) [44] = J := ⟨_, rfl⟩
        rw [hJ] at hjl
        have hfin : strT v = 91 :: (J ++ [93]) := by
          unfold strT
          rw [show scan v 257 0 = _ from HALL.out.symm, hJ]
        have hcall := Try.strings_Join bk off c xs ⟨#[44]⟩ wo (fun j x hj => by have := hcell j x hj 0 _ rfl; simpa using this) hbk (by omega) hcap (by show (Lib.join (xs.map (·.data.toList)) [44]).length ≤ _; rw [hJ]; omega)
        rw [show (⟨#[44]⟩ : ByteArray).data.toList = [44] from rfl, hJ] at hcall
        have HF := Lib.hid hfin
        have HC := Lib.hid hcall
        clear hfin hcall hM hE hcell hJ HALL HSC
        go_wp2_with fail
        refine HC.out.mono ?_
        rintro e w2 ⟨rfl, hb2⟩
        go_wp2_with fail
        go_ret
        refine ⟨?_, then_ hB (hb2.mono ?_)⟩
        · rw [HF.out]
          refine congrArg (fun s => Ending.returned (Value.string s)) (mk_str ?_)
          simp
        · exact Nat.le_refl _
end Go.Proofs.Ytlmnincllndpnaa
