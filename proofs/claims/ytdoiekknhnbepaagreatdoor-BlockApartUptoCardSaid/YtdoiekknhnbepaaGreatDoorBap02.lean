/- Merged (what the claim wants of): Shelf, ShelfC, ChkWalksB, ChkWalksC, Builder, EncWalksA, EncWalksB, SymPlain, LabPlain, EncWalksC, EncWalksD, LabWalksA, LabWalksB. -/
import Derived.Shelf.SlicesE.Clone
import Derived.Shelf.SlicesQ.IndexFunc
import Derived.Shelf.SlSortCmp.SmallK
import Derived.Shelf.Spec.SearchS
import Derived.Shelf.Strings.Builder1
import Derived.Shelf.Small.Bits
import Derived.Shelf.Small.Strs
import Derived.Shelf.Strings.BuilderF
import Derived.Shelf.Strings.BuilderK
import Derived.Shelf.Strconv.Itoa0
import Derived.Shelf.SortM.Plain
import Derived.Shelf.SortM.SortNone
import Derived.Test.YtdoiekknhnbepaaGreatDoorProg
import Derived.Shelf.Spec.TrailingZeros
import Derived.Test.YtdoiekknhnbepaaGreatDoorBap01
import Derived.Deep.LoopGhost
import Derived.Deep.CutBlock
import Derived.IntWalk
import Derived.Maps.AppendAt
import Derived.Laws.IdiomStrings
import Derived.Lib.SlicesCompact
import Derived.Lib.Bytealg
set_option linter.unusedVariables false
set_option linter.unusedSimpArgs false
set_option maxRecDepth 100000
set_option maxHeartbeats 8000000
namespace Go.Proofs
open Go.Shelf
open Go.RowKit in
open Go.RowKit in
open Go.RowKit in
def Tryz.lays125_ren : Go.Shelf.Ren := ⟨fun | 125 => 174 | 128 => 211 | 129 => 212 | n => n, fun | 46 => 200 | 3 => 3 | 51 => 74 | 53 => 100 | 4 => 4 | 5 => 5 | 9 => 9 | n => n, fun | n => n⟩
theorem Tryz.lays125 : Go.Proofs.Lays.n125 Tryz.prog Tryz.lays125_ren := {
 mixed := by kernel_rfl
 f125 := Tryz.func174.trans (congrArg some (by kernel_rfl))
 f128 := Tryz.func211.trans (congrArg some (by kernel_rfl))
 f129 := Tryz.func212.trans (congrArg some (by kernel_rfl))
 t3 := Tryz.underlying3
 a3 := Tryz.isAgg3
 z3 := Tryz.sizeOf3
 v3 := Tryz.zeroValue3
 t4 := Tryz.underlying4
 a4 := Tryz.isAgg4
 z4 := Tryz.sizeOf4
 v4 := Tryz.zeroValue4
 t5 := Tryz.underlying5
 a5 := Tryz.isAgg5
 z5 := Tryz.sizeOf5
 v5 := Tryz.zeroValue5
 t9 := Tryz.underlying9
 a9 := Tryz.isAgg9
 z9 := Tryz.sizeOf9
 v9 := Tryz.zeroValue9
 t46 := Tryz.underlying200
 a46 := Tryz.isAgg200
 z46 := Tryz.sizeOf200
 v46 := Tryz.zeroValue200
 t51 := Tryz.underlying74
 a51 := Tryz.isAgg74
 z51 := Tryz.sizeOf74
 v51 := Tryz.zeroValue74
 t53 := Tryz.underlying100
 a53 := Tryz.isAgg100
 z53 := Tryz.sizeOf100
 v53 := Tryz.zeroValue100 }
theorem Tryz.bits_Len (x : Int) (w : World) (h0 : 0 ≤ x) (h1 : x ≤ 18446744073709551615) :
  Calls Tryz.prog 174 #[.int .u64 x] w fun e w' => e = .returned (.int .i64 (Lib.bitLen x.toNat)) ∧ w' = w := Any.bits_Len Tryz.lays125 x w h0 h1
def Tryz.lays134_ren : Go.Shelf.Ren := ⟨fun | 134 => 244 | 129 => 212 | n => n, fun | 53 => 100 | 3 => 3 | 4 => 4 | 46 => 200 | 5 => 5 | 9 => 9 | n => n, fun | n => n⟩
theorem Tryz.lays134 : Go.Proofs.Lays.n134 Tryz.prog Tryz.lays134_ren := {
 mixed := by kernel_rfl
 f129 := Tryz.func212.trans (congrArg some (by kernel_rfl))
 f134 := Tryz.func244.trans (congrArg some (by kernel_rfl))
 t3 := Tryz.underlying3
 a3 := Tryz.isAgg3
 z3 := Tryz.sizeOf3
 v3 := Tryz.zeroValue3
 t4 := Tryz.underlying4
 a4 := Tryz.isAgg4
 z4 := Tryz.sizeOf4
 v4 := Tryz.zeroValue4
 t5 := Tryz.underlying5
 a5 := Tryz.isAgg5
 z5 := Tryz.sizeOf5
 v5 := Tryz.zeroValue5
 t9 := Tryz.underlying9
 a9 := Tryz.isAgg9
 z9 := Tryz.sizeOf9
 v9 := Tryz.zeroValue9
 t46 := Tryz.underlying200
 a46 := Tryz.isAgg200
 z46 := Tryz.sizeOf200
 v46 := Tryz.zeroValue200
 t53 := Tryz.underlying100
 a53 := Tryz.isAgg100
 z53 := Tryz.sizeOf100
 v53 := Tryz.zeroValue100 }
theorem Tryz.bits_LeadingZeros64 (x : Int) (w : World) (h0 : 0 ≤ x) (h1 : x ≤ 18446744073709551615) :
  Calls Tryz.prog 244 #[.int .u64 x] w fun e w' => e = .returned (.int .i64 (64 - (Lib.bitLen x.toNat : Int))) ∧ w' = w := Any.bits_LeadingZeros64 Tryz.lays134 x w h0 h1
def Tryz.lays213_ren : Go.Shelf.Ren := ⟨fun | 213 => 179 | 265 => 223 | n => n, fun | 9 => 9 | 3 => 3 | n => n, fun | n => n⟩
open Go.RowKit in
def Tryz.lays106_ren : Go.Shelf.Ren := ⟨fun | 106 => 131 | 213 => 179 | 265 => 223 | n => n, fun | 9 => 9 | 3 => 3 | n => n, fun | n => n⟩
theorem Tryz.lays106 : Go.Proofs.Lays.n106 Tryz.prog Tryz.lays106_ren := {
 mixed := by kernel_rfl
 f106 := Tryz.func131.trans (congrArg some (by kernel_rfl))
 f213 := Tryz.func179.trans (congrArg some (by kernel_rfl))
 f265 := Tryz.func223.trans (congrArg some (by kernel_rfl))
 t3 := Tryz.underlying3
 a3 := Tryz.isAgg3
 z3 := Tryz.sizeOf3
 v3 := Tryz.zeroValue3
 t9 := Tryz.underlying9
 a9 := Tryz.isAgg9
 z9 := Tryz.sizeOf9
 v9 := Tryz.zeroValue9 }
open Go.RowKit in
theorem Tryz.strings_Compare (a b : ByteArray) (w : World) :
  Calls Tryz.prog 131 #[.string a, .string b] w fun e w' => e = .returned (.int .i64 (Lib.compareBytes a.data.toList b.data.toList)) ∧ w' = w := Any.strings_Compare Tryz.lays106 a b w
open Go.RowKit in
open Go.RowKit in
open Go.RowKit in
open Go.RowKit in
open Go.RowKit in
open Go.RowKit in
open Go.Sort Go.RowKit in
open Go.Sort Go.RowKit in
open Go.RowKit Go.Sort in
open Go.RowKit Go.Sort in
def Tryz.laysBS_ren : Go.Shelf.Ren := ⟨fun | 26 => 169 | 33 => 197 | 34 => 198 | 38 => 241 | n => n, fun | 24 => 118 | 9 => 9 | 3 => 3 | 4 => 4 | 40 => 200 | 0 => 0 | n => n, fun | n => n⟩
theorem Tryz.laysBS : Go.Proofs.Lays2.n26 Tryz.prog Tryz.laysBS_ren := {
 mixed := by kernel_rfl
 f26 := Tryz.func169.trans (congrArg some (by kernel_rfl))
 f33 := Tryz.func197.trans (congrArg some (by kernel_rfl))
 f34 := Tryz.func198.trans (congrArg some (by kernel_rfl))
 f38 := Tryz.func241.trans (congrArg some (by kernel_rfl))
 t0 := Tryz.underlying0
 a0 := Tryz.isAgg0
 z0 := Tryz.sizeOf0
 v0 := Tryz.zeroValue0
 t3 := Tryz.underlying3
 a3 := Tryz.isAgg3
 z3 := Tryz.sizeOf3
 v3 := Tryz.zeroValue3
 t4 := Tryz.underlying4
 a4 := Tryz.isAgg4
 z4 := Tryz.sizeOf4
 v4 := Tryz.zeroValue4
 t9 := Tryz.underlying9
 a9 := Tryz.isAgg9
 z9 := Tryz.sizeOf9
 v9 := Tryz.zeroValue9
 t24 := Tryz.underlying118
 a24 := Tryz.isAgg118
 z24 := Tryz.sizeOf118
 v24 := Tryz.zeroValue118
 t40 := Tryz.underlying200
 a40 := Tryz.isAgg200
 z40 := Tryz.sizeOf200
 v40 := Tryz.zeroValue200 }
def Tryz.laysSFL_ren : Go.Shelf.Ren := ⟨fun | 6 => 119 | 15 => 174 | 14 => 173 | 28 => 211 | 29 => 212 | 20 => 203 | 21 => 204 | 22 => 205 | 23 => 206 | 24 => 207 | 25 => 208 | 26 => 209 | 27 => 210 | 46 => 246 | 47 => 247 | 48 => 248 | 49 => 249 | 50 => 250 | 57 => 261 | n => n, fun | 22 => 54 | 24 => 99 | 25 => 211 | 3 => 3 | 39 => 200 | 0 => 0 | 53 => 74 | 55 => 100 | 4 => 4 | 46 => 303 | 45 => 302 | 50 => 265 | 5 => 5 | 9 => 9 | 66 => 337 | 70 => 340 | 76 => 349 | 77 => 350 | n => n, fun | n => n⟩
theorem Tryz.laysSFL : Go.Proofs.SlLaysF0.n6 Tryz.prog Tryz.laysSFL_ren := {
 mixed := by kernel_rfl
 f6 := ⟨Tryz.f119.name, by decide, Tryz.func119.trans (congrArg some (by kernel_rfl))⟩
 f14 := ⟨Tryz.f173.name, by decide, Tryz.func173.trans (congrArg some (by kernel_rfl))⟩
 f15 := Tryz.func174.trans (congrArg some (by kernel_rfl))
 f20 := ⟨Tryz.f203.name, by decide, Tryz.func203.trans (congrArg some (by kernel_rfl))⟩
 f21 := ⟨Tryz.f204.name, by decide, Tryz.func204.trans (congrArg some (by kernel_rfl))⟩
 f22 := ⟨Tryz.f205.name, by decide, Tryz.func205.trans (congrArg some (by kernel_rfl))⟩
 f23 := ⟨Tryz.f206.name, by decide, Tryz.func206.trans (congrArg some (by kernel_rfl))⟩
 f24 := ⟨Tryz.f207.name, by decide, Tryz.func207.trans (congrArg some (by kernel_rfl))⟩
 f25 := ⟨Tryz.f208.name, by decide, Tryz.func208.trans (congrArg some (by kernel_rfl))⟩
 f26 := ⟨Tryz.f209.name, by decide, Tryz.func209.trans (congrArg some (by kernel_rfl))⟩
 f27 := ⟨Tryz.f210.name, by decide, Tryz.func210.trans (congrArg some (by kernel_rfl))⟩
 f28 := Tryz.func211.trans (congrArg some (by kernel_rfl))
 f29 := Tryz.func212.trans (congrArg some (by kernel_rfl))
 f46 := ⟨Tryz.f246.name, by decide, Tryz.func246.trans (congrArg some (by kernel_rfl))⟩
 f47 := Tryz.func247.trans (congrArg some (by kernel_rfl))
 f48 := Tryz.func248.trans (congrArg some (by kernel_rfl))
 f49 := ⟨Tryz.f249.name, by decide, Tryz.func249.trans (congrArg some (by kernel_rfl))⟩
 f50 := ⟨Tryz.f250.name, by decide, Tryz.func250.trans (congrArg some (by kernel_rfl))⟩
 f57 := ⟨Tryz.f261.name, by decide, Tryz.func261.trans (congrArg some (by kernel_rfl))⟩
 t0 := Tryz.underlying0
 a0 := Tryz.isAgg0
 z0 := Tryz.sizeOf0
 v0 := Tryz.zeroValue0
 t3 := Tryz.underlying3
 a3 := Tryz.isAgg3
 z3 := Tryz.sizeOf3
 v3 := Tryz.zeroValue3
 t4 := Tryz.underlying4
 a4 := Tryz.isAgg4
 z4 := Tryz.sizeOf4
 v4 := Tryz.zeroValue4
 t5 := Tryz.underlying5
 a5 := Tryz.isAgg5
 z5 := Tryz.sizeOf5
 v5 := Tryz.zeroValue5
 t9 := Tryz.underlying9
 a9 := Tryz.isAgg9
 z9 := Tryz.sizeOf9
 v9 := Tryz.zeroValue9
 t22 := Tryz.underlying54
 a22 := Tryz.isAgg54
 z22 := Tryz.sizeOf54
 v22 := Tryz.zeroValue54
 t25 := Tryz.underlying211
 a25 := Tryz.isAgg211
 z25 := Tryz.sizeOf211
 v25 := Tryz.zeroValue211
 t39 := Tryz.underlying200
 a39 := Tryz.isAgg200
 z39 := Tryz.sizeOf200
 v39 := Tryz.zeroValue200
 t45 := Tryz.underlying302
 a45 := Tryz.isAgg302
 z45 := Tryz.sizeOf302
 v45 := Tryz.zeroValue302
 t46 := Tryz.underlying303
 a46 := Tryz.isAgg303
 z46 := Tryz.sizeOf303
 v46 := Tryz.zeroValue303
 t50 := Tryz.underlying265
 a50 := Tryz.isAgg265
 z50 := Tryz.sizeOf265
 v50 := Tryz.zeroValue265
 t53 := Tryz.underlying74
 a53 := Tryz.isAgg74
 z53 := Tryz.sizeOf74
 v53 := Tryz.zeroValue74
 t55 := Tryz.underlying100
 a55 := Tryz.isAgg100
 z55 := Tryz.sizeOf100
 v55 := Tryz.zeroValue100
 t66 := Tryz.underlying337
 a66 := Tryz.isAgg337
 z66 := Tryz.sizeOf337
 v66 := Tryz.zeroValue337
 t70 := Tryz.underlying340
 a70 := Tryz.isAgg340
 z70 := Tryz.sizeOf340
 v70 := Tryz.zeroValue340
 t76 := Tryz.underlying349
 a76 := Tryz.isAgg349
 z76 := Tryz.sizeOf349
 v76 := Tryz.zeroValue349
 t77 := Tryz.underlying350
 a77 := Tryz.isAgg350
 z77 := Tryz.sizeOf350
 v77 := Tryz.zeroValue350 }
def Tryz.laysCFL_ren : Go.Shelf.Ren := ⟨fun | 8 => 193 | 6 => 232 | n => n, fun | 22 => 54 | 23 => 99 | 25 => 294 | 4 => 4 | 3 => 3 | 0 => 0 | n => n, fun | n => n⟩
theorem Tryz.laysCFL : Go.Proofs.SlLaysH0.n8 Tryz.prog Tryz.laysCFL_ren := {
 mixed := by kernel_rfl
 f6 := ⟨Tryz.f232.name, by decide, Tryz.func232.trans (congrArg some (by kernel_rfl))⟩
 f8 := ⟨Tryz.f193.name, by decide, Tryz.func193.trans (congrArg some (by kernel_rfl))⟩
 t0 := Tryz.underlying0
 a0 := Tryz.isAgg0
 z0 := Tryz.sizeOf0
 v0 := Tryz.zeroValue0
 t3 := Tryz.underlying3
 a3 := Tryz.isAgg3
 z3 := Tryz.sizeOf3
 v3 := Tryz.zeroValue3
 t4 := Tryz.underlying4
 a4 := Tryz.isAgg4
 z4 := Tryz.sizeOf4
 v4 := Tryz.zeroValue4
 t22 := Tryz.underlying54
 a22 := Tryz.isAgg54
 z22 := Tryz.sizeOf54
 v22 := Tryz.zeroValue54
 t25 := Tryz.underlying294
 a25 := Tryz.isAgg294
 z25 := Tryz.sizeOf294
 v25 := Tryz.zeroValue294 }
def Tryz.laysCL_ren : Go.Shelf.Ren := ⟨fun | 41 => 61 | n => n, fun | 22 => 54 | 23 => 99 | 4 => 4 | n => n, fun | n => n⟩
theorem Tryz.laysCL : Go.Proofs.SlLaysE0.n41 Tryz.prog Tryz.laysCL_ren := {
 mixed := by kernel_rfl
 f41 := ⟨Tryz.f61.name, by decide, Tryz.func61.trans (congrArg some (by kernel_rfl))⟩
 t4 := Tryz.underlying4
 a4 := Tryz.isAgg4
 z4 := Tryz.sizeOf4
 v4 := Tryz.zeroValue4
 t22 := Tryz.underlying54
 a22 := Tryz.isAgg54
 z22 := Tryz.sizeOf54
 v22 := Tryz.zeroValue54 }
end Go.Proofs
namespace Go.Proofs
open Go.Shelf
def Tryz.lays7_29_ren : Go.Shelf.Ren := ⟨fun | 29 => 245 | n => n, fun | 22 => 100 | 3 => 3 | 4 => 4 | 25 => 200 | 54 => 348 | 0 => 0 | 5 => 5 | n => n, fun | 1 => 2 | n => n⟩
theorem Tryz.lays7_29 : Go.Proofs.Lays7.n29 Tryz.prog Tryz.lays7_29_ren := {
 mixed := by kernel_rfl
 f29 := Tryz.func245.trans (congrArg some (by kernel_rfl))
 t0 := Tryz.underlying0
 a0 := Tryz.isAgg0
 z0 := Tryz.sizeOf0
 v0 := Tryz.zeroValue0
 i0 := by kernel_rfl
 t3 := Tryz.underlying3
 a3 := Tryz.isAgg3
 z3 := Tryz.sizeOf3
 v3 := Tryz.zeroValue3
 i3 := by kernel_rfl
 t4 := Tryz.underlying4
 a4 := Tryz.isAgg4
 z4 := Tryz.sizeOf4
 v4 := Tryz.zeroValue4
 i4 := by kernel_rfl
 t5 := Tryz.underlying5
 a5 := Tryz.isAgg5
 z5 := Tryz.sizeOf5
 v5 := Tryz.zeroValue5
 i5 := by kernel_rfl
 t22 := Tryz.underlying100
 a22 := Tryz.isAgg100
 z22 := Tryz.sizeOf100
 v22 := Tryz.zeroValue100
 i22 := by kernel_rfl
 t25 := Tryz.underlying200
 a25 := Tryz.isAgg200
 z25 := Tryz.sizeOf200
 v25 := Tryz.zeroValue200
 i25 := by kernel_rfl
 t54 := Tryz.underlying348
 a54 := Tryz.isAgg348
 z54 := Tryz.sizeOf348
 g1 := by kernel_rfl }
end Go.Proofs
namespace Go.Proofs.YtdoiekknhnbepaaGreatDoor
section
open Go.RowKit
open Lib renaming hid → Jh
open List renaming length_append → Jd
attribute [local go_sem ↓] Go.wp_at_zero Go.wp_at_succ
attribute [local go_sem] Later.cell
theorem Kwr : ∀ (f x : Nat), x < 2 ^ f → Lib.bitLenAux f x = if x = 0 then 0 else x.log2 + 1
 | 0, x, h => by
  have : x = 0 := by omega
  simp [Lib.bitLenAux, this]
 | f + 1, x, h => by
  rw [Lib.bitLenAux]
  by_cases h0 : x = 0
  ·rw [if_pos h0, if_pos h0]
  ·rw [if_neg h0, if_neg h0, Kwr f (x / 2) (by rw [Nat.pow_succ] at h; omega)]
   by_cases h1 : x / 2 = 0
   ·rw [if_pos h1]; have : x = 1 := by omega
    subst this; decide
   ·rw [if_neg h1]; rw [Nat.log2_def x, if_pos (by omega)]; omega
theorem Qfi {x : Nat} (h : x < 2 ^ 64) : (64 : Int) - (Lib.bitLen x : Int) = ((clzN x : Nat) : Int) := by
 unfold Lib.bitLen clzN; rw [Kwr 64 x h]
 by_cases h0 : x = 0
 ·rw [if_pos h0]; rfl
 ·rw [if_neg h0]; have := (Nat.log2_lt h0).2 h; omega
theorem Kxd : ∀ (f x : Nat), Lib.ctzFrom f x = ctzF x f
 | 0, _ => rfl
 | f + 1, x => by
  rw [Lib.ctzFrom, ctzF, Kxd f (x / 2)]
  split
  ·rfl
  ·omega
theorem Qfq {x : Nat} (h0 : x ≠ 0) : Lib.ctz 64 x = ctzN x := by
 unfold Lib.ctz ctzN; rw [if_neg h0, Kxd]
def DbTab (w : World) : Prop := Go.Proofs.TabAt 2 Lib.deBruijn64tab w
theorem DbTab.below {w w' : World} (h : DbTab w) (hb : Below w.heap.size w w') : DbTab w' := fun j hj => later hb (h j hj)
theorem Qca (x : Nat) (hx : x < 2 ^ 64) (w : World) : Calls Tryz.prog 244 #[.int .u64 (x : Int)] w fun e w' => e = .returned (.int .i64 ((clzN x : Nat) : Int)) ∧ w' = w := by
 have := Tryz.bits_LeadingZeros64 (x : Int) w (by omega) (by omega); rw [Int.toNat_natCast, Qfi hx] at this; exact this
theorem Kzq (x : Nat) (hx : x < 2 ^ 64) (h0 : x ≠ 0) (w : World) (hT : DbTab w) : Calls Tryz.prog 245 #[.int .u64 (x : Int)] w fun e w' => e = .returned (.int .i64 ((ctzN x : Nat) : Int)) ∧ w' = w := by
 have := Any7.bits_TrailingZeros64 Tryz.lays7_29 x hx w (fun _ => hT); rw [Qfq h0] at this; exact this
theorem Kvt (B b : Nat) (c : Cst) (l : List Bool) (x : Nat) (w : World) (h : ChAt B b c l w) (hc : c.Ok) (hx : x < 2 ^ 64) (hlen : l.length ≤ 1099511627000) (hB : B ≤ w.heap.size) (hT : DbTab w) :
  Calls Tryz.prog 201 #[.pointer (some ⟨b, 0, none⟩), .int .u64 (x : Int)] w fun e w' => e = .returned (.tuple #[]) ∧ ChAt B b (Kbh c x).2 (l ++ (Kbh c x).1) w' ∧ Below B w w' ∧ KeepT b w w' := by
 have hcc := h.cells; have c6 := hcc.2.2.2.2.1; have c7 := hcc.2.2.2.2.2.1; have c8 := hcc.2.2.2.2.2.2.1; have z6 := hcc.2.2.2.2.2.2.2 6; have z7 := hcc.2.2.2.2.2.2.2 7; have z8 := hcc.2.2.2.2.2.2.2 8; have H := Jh h; have H0 := Jh h.1; clear h hcc
 by_cases h0 : x = 0
 ·subst h0; go_enter Tryz.func201, Tryz.ntmps201
  go_wp2_with fail
  refine (Kbm B b _ _ l 0 1 w H.out (by omega) (by omega) (by decide) hB).mono ?_; rintro _ w2 ⟨rfl, h5, h6, h6k⟩; go_wp2_with fail
  refine bodyPost_ret (results_none rfl _ _ _) rfl ?_; exact ⟨rfl, h5, h6, h6k⟩
 ·have e0 : ((x : Int) == 0) = false := by simp [h0]
  have H0' := Jh h0; have HCL := Jh (Qca x hx w); have HCT := Jh (Kzq x hx h0 w hT); have hcz := Kpi h0 hx; obtain ⟨cl, hcl⟩ : ∃ cl, clzN x = cl := ⟨_, rfl⟩; obtain ⟨ct, hct⟩ : ∃ ct, ctzN x = ct := ⟨_, rfl⟩; rw [hcl] at HCL hcz; rw [hct] at HCT hcz; have HCLE := Jh hcl; have HCTE := Jh hct; clear hcl hct; obtain ⟨ld, hld⟩ : ∃ ld, min cl 31 = ld := ⟨_, rfl⟩; have HLD := Jh hld; have hl31 : ld ≤ 31 := by omega
  have hlc : ld + ct ≤ 63 := by omega
  go_enter Tryz.func201, Tryz.ntmps201
  go_upto_region 2 with fail
  go_cut [4, 5] (fun s4 s5 wx => s4 = .int .i64 (ld : Int) ∧ s5 = .int .i64 (ct : Int) ∧ wx = w)
  case first =>
   clear hld; go_wp2_with fail
   refine HCL.out.mono ?_; rintro _ _ ⟨rfl, rfl⟩; go_wp2_with fail
   refine HCT.out.mono ?_; rintro _ _ ⟨rfl, rfl⟩; go_wp2_with fail
   go_meet
   exact ⟨vi (by have := HLD.out; omega), rfl, rfl⟩
  case rest =>
   obtain ⟨rfl, rfl, rfl⟩ := hcut; go_upto_region 3 with fail
   have hce := hc.2
   by_cases hwin : c.window = true ∧ c.lead ≤ ld ∧ c.tail ≤ ct
   ·have f1 := hwin.1; have f2 : decide ((c.lead : Int) ≤ (ld : Int)) = true := by simp; omega
    have f3 : decide ((c.tail : Int) ≤ (ct : Int)) = true := by simp; omega
    have g2 : (c.lead : Int) ≤ (ld : Int) := by omega
    have g3 : (c.tail : Int) ≤ (ct : Int) := by omega
    rw [f1] at c8; go_wp2_with fail
    refine (Kbm B b _ _ l 2 2 wc H.out (by omega) (by omega) (by decide) hB).mono ?_; rintro _ w2 ⟨rfl, h5, h6, h6k⟩; have HX : Hid (ChAt B b c (l ++ putN 2 2) w2) := Jh h5; have HXB := Jh h6; have HXK := Jh h6k; have hBx : B ≤ w2.heap.size := Nat.le_trans hB h6.size; clear h5 h6 h6k c6 c7 c8 z6 z7 z8; go_upto_region 9 with fail
    have hcc := HX.out.cells; have c6 := hcc.2.2.2.2.1; have c7 := hcc.2.2.2.2.2.1; have sl := HX.out.lt; clear hcc; have ht63 : c.tail ≤ 63 := by omega
    have e1 : wrap64 (64 - (c.lead : Int) - (c.tail : Int)) = 64 - (c.lead : Int) - (c.tail : Int) := by unfold wrap64; omega
    refine Kag 19 (by kernel_rfl) (by kernel_rfl) ?_; simp only [List.take_succ_cons, List.take_zero, List.drop_succ_cons, List.drop_zero]
    repeat (go_big_quiet_step (fail))
    refine wpQuiet_nil ?_; rintro w4 ⟨⟨_, hb4⟩, rfl⟩; have H4 := Jh (WrAt.far HX.out hb4); have HB4 := Jh (HXB.out.trans (hb4.mono hBx)); have HK4 := Jh (HXK.out.trans (KeepT.of_below (b := b) hb4)); have hB4 : B ≤ w4.heap.size := Nat.le_trans hBx hb4.size; clear hb4 sl c6 c7; have hsh : (x : Int) / 2 ^ c.tail = ((x >>> c.tail : Nat) : Int) := by rw [Nat.shiftRight_eq_div_pow]; simp
    have hwd : (64 : Int) - (c.lead : Int) - (c.tail : Int) = ((64 - c.lead - c.tail : Nat) : Int) := by omega
    rw [hsh, hwd]; have hsl : x >>> c.tail < 2 ^ 64 := Nat.lt_of_le_of_lt (Nat.shiftRight_le _ _) hx; obtain ⟨sx, hsx⟩ : ∃ sx, x >>> c.tail = sx := ⟨_, rfl⟩; obtain ⟨wd, hwd2⟩ : ∃ wd, 64 - c.lead - c.tail = wd := ⟨_, rfl⟩; rw [hsx] at hsl; rw [hsx, hwd2]; have HSX := Jh hsx; have HWD := Jh hwd2; clear hsh hwd hsx; go_wp2_with fail
    refine (Kbm B b _ _ (l ++ putN 2 2) sx wd w4 H4.out (by omega) (by rw [Jd]; rw [Kar]; omega) hsl hB4).mono ?_; rintro _ w5 ⟨rfl, h5, h6, h6k⟩; go_wp2_with fail
    go_end0
    rw [List.append_assoc] at h5
    have hd : Kbh c x = (putN 2 2 ++ putN sx wd, c) := by
     unfold Kbh; rw [if_neg H0'.out, HCLE.out, HCTE.out, HLD.out, if_pos hwin]; rw [HSX.out, HWD.out]
    rw [hd]; exact ⟨rfl, h5, HB4.out.trans h6, HK4.out.trans h6k⟩
   ·go_cut [36] (fun s36 wx => s36 = .bool false ∧ wx = wc)
    case first =>
     cases hw : c.window with
     | false =>
      rw [hw] at c8; go_wp2_with fail
      go_meet
      exact ⟨rfl, rfl⟩
     | true =>
      rw [hw] at c8
      by_cases k2 : c.lead ≤ ld
      ·have f2 : decide ((c.lead : Int) ≤ (ld : Int)) = true := by simp; omega
       have k3 : ¬ c.tail ≤ ct := fun h => hwin ⟨hw, k2, h⟩
       have f3 : decide ((c.tail : Int) ≤ (ct : Int)) = false := by simp; omega
       have g2 : (c.lead : Int) ≤ (ld : Int) := by omega
       go_wp2_with fail
       go_meet
       exact ⟨rfl, rfl⟩
      ·have f2 : decide ((c.lead : Int) ≤ (ld : Int)) = false := by simp; omega
       go_wp2_with fail
       go_meet
       exact ⟨rfl, rfl⟩
    case rest =>
     obtain ⟨rfl, rfl⟩ := hcut
     have HX0 : Hid (ChAt B b { c with lead := ld, tail := ct, window := true } l (((wc.setCell ⟨b, 6, none⟩ (.int .i64 (ld : Int))).setCell ⟨b, 7, none⟩ (.int .i64 (ct : Int))).setCell ⟨b, 8, none⟩ (.bool true))) :=
      Jh (((H.out.rest_set 4 (.int .i64 (ld : Int))).rest_set 5 (.int .i64 (ct : Int))).rest_set 6 (.bool true))
     have HB0 : Hid (Below B wc (((wc.setCell ⟨b, 6, none⟩ (.int .i64 (ld : Int))).setCell ⟨b, 7, none⟩ (.int .i64 (ct : Int))).setCell ⟨b, 8, none⟩ (.bool true))) :=
      Jh ((((Below.refl _ _).setCell (p := ⟨b, 6, none⟩) H0.out _).setCell (p := ⟨b, 7, none⟩) H0.out _).setCell (p := ⟨b, 8, none⟩) H0.out _)
     have HK0 : Hid (KeepT b wc (((wc.setCell ⟨b, 6, none⟩ (.int .i64 (ld : Int))).setCell ⟨b, 7, none⟩ (.int .i64 (ct : Int))).setCell ⟨b, 8, none⟩ (.bool true))) := Jh ((KeepT.own.trans KeepT.own).trans KeepT.own); go_upto_region 6 with fail
     obtain ⟨w1, hw1⟩ : ∃ w1, (((wc.setCell ⟨b, 6, none⟩ (.int .i64 (ld : Int))).setCell ⟨b, 7, none⟩ (.int .i64 (ct : Int))).setCell ⟨b, 8, none⟩ (.bool true)) = w1 := ⟨_, rfl⟩; rw [hw1] at HX0 HB0 HK0; rw [hw1]; have hB1 : B ≤ w1.heap.size := Nat.le_trans hB HB0.out.size; clear hw1 c6 c7 c8 z6 z7 z8; go_wp2_with fail
     refine (Kbm B b _ _ l 3 2 w1 HX0.out (by omega) (by omega) (by decide) hB1).mono ?_; rintro _ w2 ⟨rfl, h5, h6, h6k⟩; have HX2 := Jh h5; have HB2 := Jh (HB0.out.trans h6); have HK2 := Jh (HK0.out.trans h6k); have hB2 : B ≤ w2.heap.size := Nat.le_trans hB1 h6.size; clear h5 h6 h6k; have hldu : IntKind.u64.wrap (ld : Int) = (ld : Int) := Keg _ (by omega) (by omega); go_wp2_with fail
     refine (Kbm B b _ _ (l ++ putN 3 2) ld 5 w2 HX2.out (by omega) (by rw [Jd, Kar]; omega) (by omega) hB2).mono ?_; rintro _ w3 ⟨rfl, h5, h6, h6k⟩; have HX3 := Jh h5; have HB3 := Jh (HB2.out.trans h6); have HK3 := Jh (HK2.out.trans h6k); have hB3 : B ≤ w3.heap.size := Nat.le_trans hB2 h6.size; clear h5 h6 h6k; have e2 : wrap64 (63 - (ld : Int) - (ct : Int)) = ((63 - ld - ct : Nat) : Int) := by unfold wrap64; omega
     have e3 : (63 : Int) - (ld : Int) - (ct : Int) = ((63 - ld - ct : Nat) : Int) := by omega
     have e4 : IntKind.u64.wrap ((63 - ld - ct : Nat) : Int) = ((63 - ld - ct : Nat) : Int) := Keg _ (by omega) (by omega); obtain ⟨mm, hmm⟩ : ∃ mm, 63 - ld - ct = mm := ⟨_, rfl⟩; have HMM := Jh hmm; rw [hmm] at e2 e3 e4; clear hmm; go_wp2_with fail
     refine (Kbm B b _ _ (l ++ putN 3 2 ++ putN ld 5) mm 6 w3 HX3.out (by omega) (by rw [Jd, Jd, Kar, Kar]; omega) (by have := HMM.out; omega) hB3).mono ?_; rintro _ w4 ⟨rfl, h5, h6, h6k⟩
     have HX : Hid (ChAt B b { c with lead := ld, tail := ct, window := true } (l ++ (putN 3 2 ++ putN ld 5 ++ putN (63 - ld - ct) 6)) w4) := Jh (by
      rw [← List.append_assoc, ← List.append_assoc, HMM.out]
      exact h5)
     have HXB := Jh (HB3.out.trans h6); have HXK := Jh (HK3.out.trans h6k); have hBx : B ≤ w4.heap.size := Nat.le_trans hB3 h6.size; clear h5 h6 h6k; go_upto_region 9 with fail
     have hcc := HX.out.cells; have c6 := hcc.2.2.2.2.1; have c7 := hcc.2.2.2.2.2.1; have sl := HX.out.lt; clear hcc; have ht63 : ct ≤ 63 := by omega
     have e1 : wrap64 (64 - (ld : Int) - (ct : Int)) = 64 - (ld : Int) - (ct : Int) := by unfold wrap64; omega
     refine Kag 19 (by kernel_rfl) (by kernel_rfl) ?_; simp only [List.take_succ_cons, List.take_zero, List.drop_succ_cons, List.drop_zero]
     repeat (go_big_quiet_step (fail))
     refine wpQuiet_nil ?_; rintro w4 ⟨⟨_, hb4⟩, rfl⟩; have H4 := Jh (WrAt.far HX.out hb4); have HB4 := Jh (HXB.out.trans (hb4.mono hBx)); have HK4 := Jh (HXK.out.trans (KeepT.of_below (b := b) hb4)); have hB4 : B ≤ w4.heap.size := Nat.le_trans hBx hb4.size; clear hb4 sl c6 c7; have hsh : (x : Int) / 2 ^ ct = ((x >>> ct : Nat) : Int) := by rw [Nat.shiftRight_eq_div_pow]; simp
     have hwd : (64 : Int) - (ld : Int) - (ct : Int) = ((64 - ld - ct : Nat) : Int) := by omega
     rw [hsh, hwd]; have hsl : x >>> ct < 2 ^ 64 := Nat.lt_of_le_of_lt (Nat.shiftRight_le _ _) hx; obtain ⟨sx, hsx⟩ : ∃ sx, x >>> ct = sx := ⟨_, rfl⟩; obtain ⟨wd, hwd2⟩ : ∃ wd, 64 - ld - ct = wd := ⟨_, rfl⟩; rw [hsx] at hsl; rw [hsx, hwd2]; have HSX := Jh hsx; have HWD := Jh hwd2; clear hsh hwd hsx; go_wp2_with fail
     refine (Kbm B b _ _ (l ++ (putN 3 2 ++ putN ld 5 ++ putN (63 - ld - ct) 6)) sx wd w4 H4.out (by omega) (by rw [Jd]; rw [Jd, Jd, Kar, Kar, Kar]; omega) hsl hB4).mono ?_; rintro _ w5 ⟨rfl, h5, h6, h6k⟩; go_wp2_with fail
     go_end0
     rw [List.append_assoc] at h5
     have hd : Kbh c x = ((putN 3 2 ++ putN ld 5 ++ putN (63 - ld - ct) 6) ++ putN sx wd, { c with lead := ld, tail := ct, window := true }) := by
      unfold Kbh; rw [if_neg H0'.out, HCLE.out, HCTE.out, HLD.out, if_neg hwin]; rw [HSX.out, HWD.out]
     rw [hd]; exact ⟨rfl, h5, HB4.out.trans h6, HK4.out.trans h6k⟩
end
section
open Go.RowKit
open Lib renaming hid → Jh
attribute [local go_sem ↓] Go.wp_at_zero Go.wp_at_succ
attribute [local go_sem] Later.cell
def stepE (c : Cst) (s : Smp) : Nat := if s.t < 0 ∨ 1125899906842624 < s.t then 91 else if 0 < c.n ∧ s.t ≤ c.last.t then 90 else if c.n = 120 then 92 else 0
theorem Kmr (ch : Int) : (Kcc ch).length ≤ 70 := by
 unfold Kcc
 repeat' split
 all_goals simp [Kar]
def DbAt (B : Nat) (w : World) : Prop := DbTab w ∧ 2 < B
theorem DbAt.below {B : Nat} {w w' : World} (h : DbAt B w) (hb : Below B w w') : DbAt B w' := ⟨fun j hj => (hb.cell (p := ⟨2, j, none⟩) h.2).trans (h.1 j hj), h.2⟩
theorem Qeg (c : Cst) (x : Nat) : (Kbh c x).2.n = c.n := by
 unfold Kbh
 split
 ·rfl
 ·split <;> rfl
def Qgn (B b : Nat) (c : Cst) (l : List Bool) (s : Smp) (E : Nat) (w : World) (e : Ending) (w' : World) : Prop :=
 e = .returned (.int .i64 (E : Nat)) ∧ (E = 0 → ChAt B b (Kbg c s).2 (l ++ (Kbg c s).1) w') ∧ Below B w w' ∧ KeepT b w w'
theorem Kum (B b : Nat) (c : Cst) (l : List Bool) (s : Smp) (w : World) (h : ChAt B b c l w) (hg : c.Good) (hn : c.n ≤ 120) (hv : s.v < 2 ^ 64) (hlen : l.length ≤ 1000000) (hB : B ≤ w.heap.size) (hT : DbAt B w) :
  Calls Tryz.prog 171 #[.pointer (some ⟨b, 0, none⟩), .int .i64 s.t, .int .u64 (s.v : Int)] w (Qgn B b c l s (stepE c s) w) := by
 obtain ⟨t, v⟩ := s; have hcc := h.cells; have c2 := hcc.1; have c3 := hcc.2.1; have c4 := hcc.2.2.1; have z2 := hcc.2.2.2.2.2.2.2 2; have H := Jh h; have H0 := Jh h.1; have HG := Jh hg; clear h hcc; dsimp only at hv ⊢; obtain ⟨E, hE⟩ : ∃ E, stepE c ⟨t, v⟩ = E := ⟨_, rfl⟩; have HE := Jh hE; rw [hE]; unfold stepE at hE; dsimp only at hE
 by_cases b1 : t < 0
 ·rw [if_pos (.inl b1)] at hE; have d1 : decide (t < 0) = true := by simp [b1]
  subst hE; go_enter Tryz.func171, Tryz.ntmps171
  go_wp2_with fail
  go_ret
  exact ⟨rfl, fun h => absurd h (by decide), Below.refl _ _, KeepT.refl _ _⟩
 by_cases b2 : 1125899906842624 < t
 ·rw [if_pos (.inr b2)] at hE; have d1 : decide (t < 0) = false := by simp; omega
  have d2 : decide (1125899906842624 < t) = true := by simp; omega
  subst hE; go_enter Tryz.func171, Tryz.ntmps171
  go_wp2_with fail
  go_ret
  exact ⟨rfl, fun h => absurd h (by decide), Below.refl _ _, KeepT.refl _ _⟩
 rw [if_neg (by omega)] at hE; have d1 : decide (t < 0) = false := by simp; omega
 have d2 : decide (1125899906842624 < t) = false := by simp; omega
 cases hn0 : c.n with
 | zero =>
  rw [hn0] at hE c2; rw [if_neg (by omega), if_neg (by omega)] at hE; subst hE; have htu : IntKind.u64.wrap t = ((u64N t : Nat) : Int) := Kft t; go_enter Tryz.func171, Tryz.ntmps171
  go_wp2_with fail
  refine (Kbm B b _ _ l (u64N t) 64 w H.out (by omega) (by omega) (Khr _) hB).mono ?_; rintro _ w2 ⟨rfl, h5, h6, h6k⟩; have HX2 := Jh h5; have HB2 := Jh h6; have HK2 := Jh h6k; have hB2 : B ≤ w2.heap.size := Nat.le_trans hB h6.size; clear h5 h6 h6k; go_wp2_with fail
  refine (Kbm B b _ _ (l ++ putN (u64N t) 64) v 64 w2 HX2.out (by omega) (by rw [List.length_append, Kar]; omega) hv hB2).mono ?_; rintro _ w3 ⟨rfl, h5, h6, h6k⟩; have HX3 : Hid (ChAt B b c (l ++ putN (u64N t) 64 ++ putN v 64) w3) := Jh h5; have HB3 := Jh (HB2.out.trans h6); have HK3 := Jh (HK2.out.trans h6k); clear h5 h6 h6k c2 c3 c4 z2; have hcc := HX3.out.cells; have c2 := hcc.1; have c3 := hcc.2.1; have c4 := hcc.2.2.1; have z2 := hcc.2.2.2.2.2.2.2 2; have z3 := hcc.2.2.2.2.2.2.2 3; have z4 := hcc.2.2.2.2.2.2.2 4; rw [hn0] at c2; clear hcc; go_wp2_with fail
  go_ret
  refine ⟨rfl, fun _ => ?_, ((HB3.out.setCell (p := ⟨b, 3, none⟩) H0.out _).setCell (p := ⟨b, 4, none⟩) H0.out _).setCell (p := ⟨b, 2, none⟩) H0.out _, ((HK3.out.trans KeepT.own).trans KeepT.own).trans KeepT.own⟩; have := ((HX3.out.rest_set 1 (.int .i64 t)).rest_set 2 (.int .u64 (v : Int))).rest_set 0 (.int .i64 1); unfold Kbg; rw [if_pos hn0]; rw [List.append_assoc] at this; exact this
 | succ n =>
  rw [hn0] at hE c2 hn; have d3 : decide ((0 : Int) < (n : Int) + 1) = true := by rw [decide_eq_true_eq]; omega
  by_cases b3 : t ≤ c.last.t
  ·rw [if_pos ⟨by omega, b3⟩] at hE; have d4 : decide (t ≤ c.last.t) = true := by simp; omega
   subst hE; go_enter Tryz.func171, Tryz.ntmps171
   go_wp2_with fail
   go_ret
   exact ⟨rfl, fun h => absurd h (by decide), Below.refl _ _, KeepT.refl _ _⟩
  rw [if_neg (by omega)] at hE; have d4 : decide (t ≤ c.last.t) = false := by simp; omega
  by_cases b4 : n + 1 = 120
  ·rw [if_pos b4] at hE; have d5 : (((n : Int) + 1) == 120) = true := by simp; omega
   subst hE; go_enter Tryz.func171, Tryz.ntmps171
   go_wp2_with fail
   go_ret
   exact ⟨rfl, fun h => absurd h (by decide), Below.refl _ _, KeepT.refl _ _⟩
  rw [if_neg b4] at hE; have d5 : (((n : Int) + 1) == 120) = false := by simp; omega
  have d6 : (((n : Int) + 1) == 0) = false := by simp; omega
  subst hE; have g1 := HG.out.t0; have g2 := HG.out.t1; have g3 := HG.out.v; have g4 := HG.out.s0; have g5 := HG.out.s1; have hst : wrap64 (t - c.last.t) = t - c.last.t := by unfold wrap64; omega
  obtain ⟨st, hste⟩ : ∃ st, t - c.last.t = st := ⟨_, rfl⟩; rw [hste] at hst; have HST := Jh hste; have hxor : bits .xor .u64 (v : Int) (c.last.v : Int) = ((v ^^^ c.last.v : Nat) : Int) := bits_xor_u64_nat _ _ (by omega) (by omega); obtain ⟨xv, hxv⟩ : ∃ xv, v ^^^ c.last.v = xv := ⟨_, rfl⟩; have hxl : xv < 2 ^ 64 := by rw [← hxv]; exact Nat.xor_lt_two_pow hv g3
  rw [hxv] at hxor; have HXV := Jh hxv; have hs1 : -1125899906842624 ≤ st := by omega
  have hs2 : st ≤ 1125899906842624 := by omega
  clear hxv; go_enter Tryz.func171, Tryz.ntmps171
  go_wp2_with fail
  refine (Kyt B b c l st w H.out g4 g5 hs1 hs2 (by omega) hB).mono ?_; rintro _ w2 ⟨rfl, h5, h6, h6k⟩; obtain ⟨tb, htb⟩ : ∃ tb, Kcc (st - c.step) = tb := ⟨_, rfl⟩; have htl : tb.length ≤ 70 := by rw [← htb]; exact Kmr _
  rw [htb] at h5; have HTB := Jh htb; clear htb; have HX2 := Jh h5; have HB2 := Jh h6; have HK2 := Jh h6k; have hB2 : B ≤ w2.heap.size := Nat.le_trans hB h6.size; have HT2 := Jh (hT.below h6); clear h5 h6 h6k c2 c3 c4 z2; have hcc := HX2.out.cells; have c4 : w2.cell? ⟨b, 4, none⟩ = some (.int .u64 (c.last.v : Int)) := hcc.2.2.1; clear hcc; go_wp2_with fail
  refine (Kvt B b _ (l ++ tb) xv w2 HX2.out (HG.out.ok.step st) hxl (by rw [List.length_append]; omega) hB2 HT2.out.1).mono ?_; rintro _ w3 ⟨rfl, h5, h6, h6k⟩; have HX3 := Jh h5; have HB3 := Jh (HB2.out.trans h6); have HK3 := Jh (HK2.out.trans h6k); clear h5 h6 h6k c4; have hcc := HX3.out.cells; have hdn : (Kbh { c with step := st } xv).2.n = n + 1 := (Qeg _ _).trans hn0; have c2 := hcc.1; rw [hdn] at c2; have c3 := hcc.2.1; have c4 := hcc.2.2.1; have z2 := hcc.2.2.2.2.2.2.2 2; have z3 := hcc.2.2.2.2.2.2.2 3; have z4 := hcc.2.2.2.2.2.2.2 4; clear hcc; obtain ⟨D, hD⟩ : ∃ D, Kbh { c with step := st } xv = D := ⟨_, rfl⟩; rw [hD] at c3 c4 HX3 hdn; have HD := Jh hD; clear hD; go_wp2_with fail
  go_ret
  refine ⟨rfl, fun _ => ?_, ((HB3.out.setCell (p := ⟨b, 3, none⟩) H0.out _).setCell (p := ⟨b, 4, none⟩) H0.out _).setCell (p := ⟨b, 2, none⟩) H0.out _, ((HK3.out.trans KeepT.own).trans KeepT.own).trans KeepT.own⟩; have := ((HX3.out.rest_set 1 (.int .i64 t)).rest_set 2 (.int .u64 (v : Int))).rest_set 0 (.int .i64 ((n : Int) + 1 + 1)); unfold Kbg; rw [if_neg (by omega)]; dsimp only; rw [HST.out, HXV.out, HTB.out, HD.out, hn0]; rw [List.append_assoc] at this; exact this
end
section
open Go.Shelf Go.RowKit
def bren : Go.Shelf.Ren := ⟨fun | 166 => 40 | 167 => 113 | 169 => 48 | 240 => 109 | 276 => 168 | n => n, fun | 0 => 0 | 3 => 3 | 4 => 4 | 5 => 5 | 9 => 9 | 20 => 20 | 37 => 76 | 70 => 107 | 72 => 109 | 75 => 111 | 76 => 112 | 80 => 114 | 127 => 215 | 164 => 263 | n => n, fun n => n⟩
theorem Qcr : Go.Proofs.Lays.n166 Tryz.prog bren := {
 mixed := by kernel_rfl
 f166 := Tryz.func40.trans (congrArg some (by kernel_rfl))
 f240 := Tryz.func109.trans (congrArg some (by kernel_rfl))
 f276 := Tryz.func168.trans (congrArg some (by kernel_rfl))
 t0 := Tryz.underlying0
 a0 := Tryz.isAgg0
 z0 := Tryz.sizeOf0
 v0 := Tryz.zeroValue0
 t3 := Tryz.underlying3
 a3 := Tryz.isAgg3
 z3 := Tryz.sizeOf3
 v3 := Tryz.zeroValue3
 t4 := Tryz.underlying4
 a4 := Tryz.isAgg4
 z4 := Tryz.sizeOf4
 v4 := Tryz.zeroValue4
 t9 := Tryz.underlying9
 a9 := Tryz.isAgg9
 z9 := Tryz.sizeOf9
 v9 := Tryz.zeroValue9
 t20 := Tryz.underlying20
 a20 := Tryz.isAgg20
 z20 := Tryz.sizeOf20
 v20 := Tryz.zeroValue20
 t37 := Tryz.underlying76
 a37 := Tryz.isAgg76
 z37 := Tryz.sizeOf76
 v37 := Tryz.zeroValue76
 t70 := Tryz.underlying107
 a70 := Tryz.isAgg107
 z70 := Tryz.sizeOf107
 v70 := Tryz.zeroValue107
 t72 := Tryz.underlying109
 a72 := Tryz.isAgg109
 z72 := Tryz.sizeOf109
 v72 := Tryz.zeroValue109
 t75 := Tryz.underlying111
 a75 := Tryz.isAgg111
 z75 := Tryz.sizeOf111
 v75 := Tryz.zeroValue111
 t164 := Tryz.underlying263
 a164 := Tryz.isAgg263
 z164 := Tryz.sizeOf263
 v164 := Tryz.zeroValue263 }
theorem Qea : Go.Proofs.Lays.n167 Tryz.prog bren := {
 mixed := by kernel_rfl
 f167 := Tryz.func113.trans (congrArg some (by kernel_rfl))
 f240 := Tryz.func109.trans (congrArg some (by kernel_rfl))
 f276 := Tryz.func168.trans (congrArg some (by kernel_rfl))
 t0 := Tryz.underlying0
 a0 := Tryz.isAgg0
 z0 := Tryz.sizeOf0
 v0 := Tryz.zeroValue0
 t4 := Tryz.underlying4
 a4 := Tryz.isAgg4
 z4 := Tryz.sizeOf4
 v4 := Tryz.zeroValue4
 t5 := Tryz.underlying5
 a5 := Tryz.isAgg5
 z5 := Tryz.sizeOf5
 v5 := Tryz.zeroValue5
 t9 := Tryz.underlying9
 a9 := Tryz.isAgg9
 z9 := Tryz.sizeOf9
 v9 := Tryz.zeroValue9
 t20 := Tryz.underlying20
 a20 := Tryz.isAgg20
 z20 := Tryz.sizeOf20
 v20 := Tryz.zeroValue20
 t37 := Tryz.underlying76
 a37 := Tryz.isAgg76
 z37 := Tryz.sizeOf76
 v37 := Tryz.zeroValue76
 t70 := Tryz.underlying107
 a70 := Tryz.isAgg107
 z70 := Tryz.sizeOf107
 v70 := Tryz.zeroValue107
 t72 := Tryz.underlying109
 a72 := Tryz.isAgg109
 z72 := Tryz.sizeOf109
 v72 := Tryz.zeroValue109
 t75 := Tryz.underlying111
 a75 := Tryz.isAgg111
 z75 := Tryz.sizeOf111
 v75 := Tryz.zeroValue111
 t164 := Tryz.underlying263
 a164 := Tryz.isAgg263
 z164 := Tryz.sizeOf263
 v164 := Tryz.zeroValue263 }
theorem Kmg : Go.Proofs.Lays.n169 Tryz.prog bren := {
 mixed := by kernel_rfl
 f169 := Tryz.func48.trans (congrArg some (by kernel_rfl))
 t0 := Tryz.underlying0
 a0 := Tryz.isAgg0
 z0 := Tryz.sizeOf0
 v0 := Tryz.zeroValue0
 t3 := Tryz.underlying3
 a3 := Tryz.isAgg3
 z3 := Tryz.sizeOf3
 v3 := Tryz.zeroValue3
 t9 := Tryz.underlying9
 a9 := Tryz.isAgg9
 z9 := Tryz.sizeOf9
 v9 := Tryz.zeroValue9
 t37 := Tryz.underlying76
 a37 := Tryz.isAgg76
 z37 := Tryz.sizeOf76
 v37 := Tryz.zeroValue76
 t70 := Tryz.underlying107
 a70 := Tryz.isAgg107
 z70 := Tryz.sizeOf107
 v70 := Tryz.zeroValue107
 t72 := Tryz.underlying109
 a72 := Tryz.isAgg109
 z72 := Tryz.sizeOf109
 v72 := Tryz.zeroValue109
 t127 := Tryz.underlying215
 a127 := Tryz.isAgg215
 z127 := Tryz.sizeOf215
 v127 := Tryz.zeroValue215 }
theorem Ksp : Go.Proofs.Lays.n240 Tryz.prog bren := {
 mixed := by kernel_rfl
 f240 := Tryz.func109.trans (congrArg some (by kernel_rfl))
 f276 := Tryz.func168.trans (congrArg some (by kernel_rfl))
 t0 := Tryz.underlying0
 a0 := Tryz.isAgg0
 z0 := Tryz.sizeOf0
 v0 := Tryz.zeroValue0
 t4 := Tryz.underlying4
 a4 := Tryz.isAgg4
 z4 := Tryz.sizeOf4
 v4 := Tryz.zeroValue4
 t9 := Tryz.underlying9
 a9 := Tryz.isAgg9
 z9 := Tryz.sizeOf9
 v9 := Tryz.zeroValue9
 t20 := Tryz.underlying20
 a20 := Tryz.isAgg20
 z20 := Tryz.sizeOf20
 v20 := Tryz.zeroValue20
 t70 := Tryz.underlying107
 a70 := Tryz.isAgg107
 z70 := Tryz.sizeOf107
 v70 := Tryz.zeroValue107
 t72 := Tryz.underlying109
 a72 := Tryz.isAgg109
 z72 := Tryz.sizeOf109
 v72 := Tryz.zeroValue109
 t164 := Tryz.underlying263
 a164 := Tryz.isAgg263
 z164 := Tryz.sizeOf263
 v164 := Tryz.zeroValue263 }
theorem Kfx : Builder.Extra Tryz.prog bren := {
 sizeBuilder := by kernel_rfl
 liesBuilder := by kernel_rfl
 t5 := Tryz.underlying5
 a5 := Tryz.isAgg5
 z5 := Tryz.sizeOf5
 v5 := Tryz.zeroValue5
 infoByte := by kernel_rfl
 cellsByte := by kernel_rfl
 sizeByte := by kernel_rfl
 neB5 := by decide }
def Bld (B b : Nat) (l : List UInt8) (w : World) : Prop := Lib.IsBuilderF 109 5 B b (Lib.byteCells l) w
def Ktb (b : Nat) (w w' : World) : Prop := Lib.OthersKept 5 (some b) w w'
theorem Ktb.blk {b g : Nat} {t : TypeId} {cs : Array Value} {w w' : World} (h : Ktb b w w') (hg : Blk w g t cs) (hne : g ≠ b) (ht : t ≠ 5) : Blk w' g t cs :=
 h g _ hg (fun e => hne (by injection e)) (fun c fz e => by injection e with _ e2 _; exact ht e2)
theorem Bld.new {B : Nat} (w : World) (hB : B ≤ w.heap.size) : Bld B w.heap.size [] (w.alloc (.cells #[.pointer none, .slice none 0 0] 109)) :=
 .inl ⟨hB, .slice none 0 0, heap_alloc_new w _, World.ownsRowF_nil _ _ _ _, by simp [Value.ownBlock]⟩
theorem Bld.lt {B b : Nat} {l : List UInt8} {w : World} (h : Bld B b l w) : b < w.heap.size := by
 rcases h with ⟨_, v, hb, _⟩ | ⟨_, v, hb, _⟩ <;> exact Blk.lt hb
theorem Bld.below {B b : Nat} {l : List UInt8} {w w' : World} (h : Bld B b l w) (hb : Below w.heap.size w w') : Bld B b l w' := by
 have key : ∀ p, Lib.BuilderAtF 109 5 B b p (Lib.byteCells l) w → Lib.BuilderAtF 109 5 B b p (Lib.byteCells l) w' := by
  rintro p ⟨h1, v, h2, h3, h4⟩; refine ⟨h1, v, (hb.block b (Blk.lt h2)).trans h2, h3.kept (row := none) ⟨hb.os, hb.tape, hb.output, hb.size, fun k hk _ => hb.block k hk⟩ (by cases v.ownBlock <;> simp), h4⟩
 rcases h with h | h
 ·exact .inl (key _ h)
 ·exact .inr (key _ h)
theorem Klr (B b : Nat) (l : List UInt8) (c : UInt8) (w : World) (h : Bld B b l w) (hlen : l.length + 1 ≤ 140737488355328) (hBw : B ≤ w.heap.size) :
  Calls Tryz.prog 113 #[.pointer (some ⟨b, 0, none⟩), .int .u8 c.toNat] w fun e w' => e = .returned .nilIface ∧ Bld B b (l ++ [c]) w' ∧ Below B w w' := by
 refine (Any.Builder_WriteByte_k Qea Kfx B b (Lib.byteCells l) c.toNat w h (by simpa [Lib.byteCells] using hlen) hBw).mono ?_; rintro e w' ⟨he, hb, hw, _⟩; refine ⟨he, ?_, hw⟩; have : Lib.byteCells (l ++ [c]) = Lib.byteCells l ++ [.int .u8 c.toNat] := by simp [Lib.byteCells]
 unfold Bld; rw [this]; exact .inr hb
theorem Kax (B b : Nat) (l : List UInt8) (s : ByteArray) (w : World) (h : Bld B b l w) (hlen : l.length + s.size ≤ 140737488355328) (hBw : B ≤ w.heap.size) :
  Calls Tryz.prog 40 #[.pointer (some ⟨b, 0, none⟩), .string s] w fun e w' => e = .returned (.tuple #[.int .i64 s.size, .nilIface]) ∧ Bld B b (l ++ s.data.toList) w' ∧ Below B w w' ∧ Ktb b w w' := by
 refine (Any.Builder_WriteString_k Qcr Kfx B b (Lib.byteCells l) s w h (by simpa [Lib.byteCells] using hlen) hBw).mono ?_; rintro e w' ⟨he, hb, hw, ho⟩; refine ⟨he, ?_, hw, ho⟩; have : Lib.byteCells (l ++ s.data.toList) = Lib.byteCells l ++ Lib.strCells s := by simp [Lib.byteCells, Lib.strCells]
 unfold Bld; rw [this]; exact .inr hb
theorem Kdp (B b : Nat) (l : List UInt8) (w : World) (h : Bld B b l w) (hBw : B ≤ w.heap.size) :
  Calls Tryz.prog 48 #[.pointer (some ⟨b, 0, none⟩)] w fun e w' => e = .returned (.string ⟨l.toArray⟩) ∧ Below B w w' :=
 (Any.Builder_String_any_k Kmg Kfx B b l w h hBw).mono fun _ _ h => ⟨h.1, h.2.2.1⟩
end
section
open Go.RowKit
attribute [local go_sem ↓] Go.wp_at_zero Go.wp_at_succ
attribute [local go_sem] Later.cell
theorem or128 (g : Nat) : bits .or .u8 ((g : Int) % 256) 128 = ((UInt8.ofNat (g % 128 + 128)).toNat : Int) := by
 have key : ∀ x : Fin 256, bits .or .u8 ((x.val : Nat) : Int) 128 = ((x.val % 128 + 128 : Nat) : Int) := by decide +kernel
 have h := key ⟨g % 256, Nat.mod_lt _ (by omega)⟩; simp only at h; rw [show ((g : Int) % 256) = ((g % 256 : Nat) : Int) by omega, h]; have : (UInt8.ofNat (g % 128 + 128)).toNat = g % 128 + 128 := by simp [UInt8.toNat_ofNat']; omega
 rw [this]; omega
theorem Kse (B b : Nat) (l : List UInt8) (n : Nat) (w : World) (h : Bld B b l w) (hn : n < 256) (hlen : l.length + 1 ≤ 140737488355328) (hBw : B ≤ w.heap.size) :
  Calls Tryz.prog 113 #[.pointer (some ⟨b, 0, none⟩), .int .u8 n] w fun e w' => e = .returned .nilIface ∧ Bld B b (l ++ [UInt8.ofNat n]) w' ∧ Below B w w' := by
 have := Klr B b l (UInt8.ofNat n) w h hlen hBw; rw [show (UInt8.ofNat n).toNat = n by simp [UInt8.toNat_ofNat']; omega] at this; exact this
theorem Qev {l : List UInt8} {g v : Nat} (h : l ++ uintT g = uintT v) (hg : ¬ 127 < g) : l ++ [UInt8.ofNat g] = uintT v := by
 rw [← h, Qcb (by omega)]
theorem Qbk {l : List UInt8} {g v : Nat} (h : l ++ uintT g = uintT v) (hl : g < 2 ^ 64) (hg : 127 < g) : (l ++ [UInt8.ofNat (g % 128 + 128)]) ++ uintT (g / 128) = uintT v := by
 rw [← h, Kxy hl hg]; simp
set_option maxHeartbeats 400000 in
theorem Kau (v : Nat) (hv : v < 2 ^ 64) (w : World) :
  Calls Tryz.prog 42 #[.int .u64 v] w fun e w' => e = .returned (.string ⟨(uintT v).toArray⟩) ∧ Below w.heap.size w w' := by
 go_enter Tryz.func42, Tryz.ntmps42
 go_upto_block 0 with fail
 have hb0 : Bld w.heap.size w.heap.size [] (w.alloc (.cells #[.pointer none, .slice none 0 0] 109)) := Bld.new w (Nat.le_refl _); have hw0 : Below w.heap.size w (w.alloc (.cells #[.pointer none, .slice none 0 0] 109)) := (Below.refl _ _).alloc (Nat.le_refl _) _; obtain ⟨w0, hw⟩ : ∃ w0, w.alloc (.cells #[.pointer none, .slice none 0 0] 109) = w0 := ⟨_, rfl⟩; rw [hw] at hb0 hw0 ⊢; clear hw; obtain ⟨b, hb⟩ : ∃ b, w.heap.size = b := ⟨_, rfl⟩; rw [hb] at hb0 hw0 ⊢; have HB := Lib.hid hb; clear hb; go_wp2_with fail
 go_loopg [0] v (fun g s0 wr => ∃ l, s0 = .int .u64 (g : Nat) ∧ g < 2 ^ 64 ∧ l ++ uintT g = uintT v ∧ Bld b b l wr ∧ Below b w wr ∧ b ≤ wr.heap.size)
 case atStart => exact ⟨[], rfl, hv, rfl, hb0, hw0, by have := hb0.lt; omega⟩
 case round =>
  obtain ⟨l, rfl, hg, hl, hbr, hwr, hbs⟩ := hrel
  have hlen : l.length ≤ 11 := by
   have := congrArg List.length hl; have h2 := Kab v; rw [List.length_append] at this; omega
  have HL := Lib.hid hl; clear hl
  by_cases h127 : 127 < gk
  ·go_wp2_with fail
   rw [or128]; refine (Klr b b l _ _ hbr (by omega) hbs).mono ?_; rintro e w1 ⟨rfl, hb1, hw1⟩; go_wp2_with fail
   go_roundg (gk / 128)
   case measure => omega
   case rel => exact ⟨_, by go_num, by omega, Qbk HL.out hg h127, hb1, hwr.trans hw1, Nat.le_trans hbs hw1.size⟩
  ·go_wp2_with fail
   refine (Kse b b l gk _ hbr (by omega) (by omega) hbs).mono ?_; rintro e w1 ⟨rfl, hb1, hw1⟩; rw [Qev HL.out h127] at hb1; go_wp2_with fail
   refine (Kdp b b _ _ hb1 (Nat.le_trans hbs hw1.size)).mono ?_; rintro e w2 ⟨rfl, hw2⟩; go_wp2_with fail
   go_ret
   refine ⟨rfl, ?_⟩; rw [HB.out]; exact (hwr.trans hw1).trans hw2
theorem Kah (s : ByteArray) : s.data.toList.length = s.size := rfl
theorem Ktm {a b : ByteArray} (h : a.data.toList = b.data.toList) : a = b := by
 cases a; cases b
 exact congrArg ByteArray.mk (Array.toList_inj.1 h)
set_option maxHeartbeats 400000 in
theorem Kfe (s : ByteArray) (hs : s.size ≤ 140737488351232) (w : World) :
  Calls Tryz.prog 112 #[.string s] w fun e w' => e = .returned (.string ⟨(textT s.data.toList).toArray⟩) ∧ Below w.heap.size w w' := by
 have hu := Kau s.size (by omega) w; have hl := Kab s.size; obtain ⟨U, hU⟩ : ∃ U : ByteArray, (⟨(uintT s.size).toArray⟩ : ByteArray) = U := ⟨_, rfl⟩; have hUz : U.size ≤ 11 := by rw [← hU]; simp only [ByteArray.size, List.size_toArray]; exact hl.2
 rw [hU] at hu; have HU := Lib.hid hu; have HUU := Lib.hid hU; clear hu hU hl; go_enter Tryz.func112, Tryz.ntmps112
 go_wp2_with fail
 refine HU.out.mono ?_; rintro e w1 ⟨rfl, hb1⟩; go_wp2_with fail
 go_ret
 refine ⟨congrArg (fun s => Ending.returned (Value.string s)) (Ktm ?_), hb1⟩; rw [← HUU.out]; simp [textT]
def Klw (base : Nat) (w : World) (v : Value) (l : List UInt8) : Prop := w.ownsRow base 5 1 v l.length (Lib.byteCells l)
theorem Kqq {base e sz n : Nat} {w0 wr w1 : World} {v : Value} {xs : List Value} {o : Obj} (hwr : Below base w0 wr) (hbs : base ≤ wr.heap.size) (hown : wr.ownsRow base e sz v n xs) (hg : (wr.alloc o).grownBy w1 v.ownBlock) : Below base w0 w1 :=
 hwr.trans ⟨hg.os, hg.tape, hg.output, by have := hg.size; simp at this; omega, fun k hk => (hg.block k (by simp; omega) (fun e => by have := (hown.lt k e.symm).1; omega)).trans (Below.heap_alloc _ _ _ (by omega))⟩
theorem Klw.text {base : Nat} {w : World} {v : Value} {l : List UInt8} (h : Klw base w v l) (h0 : l ≠ []) : ∃ a cap, v = .slice (some a) l.length cap ∧ (convert 76 9 (.slice (some a) l.length cap)).run Tryz.prog w = .ok (.string ⟨l.toArray⟩) w := by
 rcases h.2 with ⟨_, hn⟩ | ⟨g, cap, cur, rfl, hb, hh, hnc, _, hsize, htk⟩
 ·exact absurd (List.eq_nil_of_length_eq_zero hn) h0
 ·refine ⟨⟨g, 0, none⟩, cap, rfl, run_convert_bytes_back w _ _ 5 _ cap l Tryz.underlying76 Tryz.underlying5 Tryz.underlying9 (fun j hj => ?_)⟩; rw [Addr.add_lit, Nat.zero_add, cell_of_row w g j cur 5 (0, 0) hh]; have e : (Lib.byteCells l)[j]? = some (.int .u8 (l[j].toNat : Int)) := by simp [Lib.byteCells, hj]
  rw [← htk, List.getElem?_take] at e
  split at e
  ·simpa using e
  ·cases e
end
section
abbrev Txt := List UInt8
def Asc (t : List Txt) : Prop := t.Pairwise (· < ·)
def IsTab (l t : List Txt) : Prop := Asc t ∧ ∀ x, x ∈ t ↔ x ∈ l
theorem Kwu {a b : Txt} (h : ¬ a < b) (h' : ¬ b < a) : a = b := List.le_antisymm (List.not_lt.1 h') (List.not_lt.1 h)
theorem Qbh {a b c : Txt} (h : a ≤ b) (h' : b < c) : a < c := by
 by_cases e : a < c
 ·exact e
 ·have := List.not_lt.1 e; exact absurd h' (List.not_lt.2 (List.le_trans this h))
theorem Kqy {a b : Txt} (h : a ≤ b) (h' : b ≠ a) : a < b := by
 by_cases e : a < b
 ·exact e
 ·exact absurd (List.le_antisymm (List.not_lt.1 e) h) h'
theorem Kwx : ∀ {t t' : List Txt}, Asc t → Asc t' → (∀ x, x ∈ t ↔ x ∈ t') → t = t'
 | [], [], _, _, _ => rfl
 | [], b :: s', _, _, h => by have := (h b).2 (by simp); simp at this
 | a :: s, [], _, _, h => by have := (h a).1 (by simp); simp at this
 | a :: s, b :: s', h1, h2, h => by
  have ha := List.pairwise_cons.1 h1; have hb := List.pairwise_cons.1 h2
  have hab : a = b := by
   apply Kwu
   ·intro hlt; rcases List.mem_cons.1 ((h a).1 (by simp)) with e | e
    ·exact List.lt_irrefl a (by rw [e] at hlt ⊢; exact hlt)
    ·exact List.lt_asymm hlt (hb.1 a e)
   ·intro hlt; rcases List.mem_cons.1 ((h b).2 (by simp)) with e | e
    ·exact List.lt_irrefl b (by rw [e] at hlt ⊢; exact hlt)
    ·exact List.lt_asymm hlt (ha.1 b e)
  subst hab; rw [Kwx ha.2 hb.2 fun x => ?_]; constructor
  ·intro hx; rcases List.mem_cons.1 ((h x).1 (by simp [hx])) with e | e
   ·subst e; exact absurd (ha.1 x hx) (List.lt_irrefl x)
   ·exact e
  ·intro hx; rcases List.mem_cons.1 ((h x).2 (by simp [hx])) with e | e
   ·subst e; exact absurd (hb.1 x hx) (List.lt_irrefl x)
   ·exact e
theorem IsTab.one {l t t' : List Txt} (h : IsTab l t) (h' : IsTab l t') : t = t' := Kwx h.1 h'.1 fun x => (h.2 x).trans (h'.2 x).symm
theorem Kje (d : Array Txt) (hs : ∀ j, j + 1 < d.size → d[j]! ≤ d[j + 1]!) : ∀ m, m ≤ d.size →
  Asc (Lib.compactUpTo d m) ∧ (∀ x, x ∈ Lib.compactUpTo d m ↔ ∃ j, j < m ∧ d[j]! = x) ∧ (0 < m → ∀ x ∈ Lib.compactUpTo d m, x ≤ d[m - 1]!)
 | 0, _ => ⟨List.Pairwise.nil, fun x => by simp [Lib.compactUpTo], fun h => by omega⟩
 | m + 1, hm => by
  obtain ⟨h1, h2, h3⟩ := Kje d hs m (by omega); rw [Lib.compactUpTo_succ]
  by_cases hk : m = 0 ∨ d[m]! ≠ d[m - 1]!
  ·have hkk : Lib.keeps d m = true := by
    rcases hk with rfl | h
    ·simp [Lib.keeps]
    ·exact Lib.keeps_pos h
   rw [hkk, if_pos rfl]
   have hlt : ∀ x ∈ Lib.compactUpTo d m, x < d[m]! := by
    intro x hx; rcases Nat.eq_zero_or_pos m with rfl | hp
    ·simp [Lib.compactUpTo] at hx
    ·have h4 := h3 hp x hx; have h5 := hs (m - 1) (by omega); rw [show m - 1 + 1 = m by omega] at h5; exact Qbh h4 (Kqy h5 (by rcases hk with h | h; omega; exact h))
   refine ⟨?_, fun x => ?_, fun _ x hx => ?_⟩
   ·rw [Asc, List.pairwise_append]; exact ⟨h1, List.pairwise_singleton _ _, fun a ha b hb => by rw [List.mem_singleton.1 hb]; exact hlt a ha⟩
   ·rw [List.mem_append, h2, List.mem_singleton]; constructor
    ·rintro (⟨j, hj, e⟩ | e)
     ·exact ⟨j, by omega, e⟩
     ·exact ⟨m, by omega, e.symm⟩
    ·rintro ⟨j, hj, e⟩
     by_cases hjm : j = m
     ·subst hjm; exact .inr e.symm
     ·exact .inl ⟨j, by omega, e⟩
   ·rw [Nat.add_sub_cancel]; rcases List.mem_append.1 hx with h | h
    ·exact List.le_of_lt (hlt x h)
    ·rw [List.mem_singleton.1 h]; exact List.le_refl _
  ·have hm0 : m ≠ 0 := fun h => hk (.inl h)
   have he : d[m]! = d[m - 1]! := by
    apply Classical.byContradiction; intro h; exact hk (.inr h)
   rw [Lib.keeps_neg (by omega) he]; simp only [Bool.false_eq_true, if_false, List.append_nil]; refine ⟨h1, fun x => ?_, fun _ x hx => ?_⟩
   ·rw [h2]; constructor
    ·rintro ⟨j, hj, e⟩; exact ⟨j, by omega, e⟩
    ·rintro ⟨j, hj, e⟩
     by_cases hjm : j = m
     ·subst hjm; exact ⟨j - 1, by omega, by rw [← he]; exact e⟩
     ·exact ⟨j, by omega, e⟩
   ·rw [Nat.add_sub_cancel, he]; exact h3 (by omega) x hx
theorem Qdl (l : List Txt) : IsTab l (Lib.compact (l.mergeSort fun x y => decide (x ≤ y))) := by
 obtain ⟨z, hz⟩ : ∃ z, l.mergeSort (fun x y => decide (x ≤ y)) = z := ⟨_, rfl⟩
 have hsorted : z.Pairwise (fun a b => a ≤ b) := by
  have := List.pairwise_mergeSort (le := fun x y : Txt => decide (x ≤ y)) (by intro a b c; simp; exact List.le_trans) (by intro a b; simp; exact List.le_total a b) l; rw [hz] at this; simpa using this
 have hmem : ∀ x, x ∈ z ↔ x ∈ l := by intro x; rw [← hz]; exact List.mem_mergeSort
 rw [hz]; have hget : ∀ j, j < z.length → z.toArray[j]! = z[j]! := fun j _ => by simp
 have hs : ∀ j, j + 1 < z.toArray.size → z.toArray[j]! ≤ z.toArray[j + 1]! := by
  intro j hj; have hj' : j + 1 < z.length := by simpa using hj
  rw [hget j (by omega), hget (j + 1) hj', getElem!_pos z j (by omega), getElem!_pos z (j + 1) hj']; exact List.pairwise_iff_getElem.1 hsorted j (j + 1) (by omega) hj' (by omega)
 obtain ⟨h1, h2, _⟩ := Kje z.toArray hs z.length (by simp); refine ⟨h1, fun x => ?_⟩; rw [Lib.compact, h2, ← hmem]; constructor
 ·rintro ⟨j, hj, e⟩; rw [hget j hj, getElem!_pos z j hj] at e; rw [← e]; exact List.getElem_mem hj
 ·intro hx; obtain ⟨j, hj, e⟩ := List.getElem_of_mem hx; exact ⟨j, hj, by rw [hget j hj, getElem!_pos z j hj]; exact e⟩
def below (t : List Txt) (s : Txt) : Nat := t.countP fun x => decide (x < s)
theorem Kmj (t : List Txt) (s : Txt) : below t s ≤ t.length := List.countP_le_length
theorem Kem : ∀ {t : List Txt} (_ : Asc t) (s : Txt) (i : Nat) (h : i < t.length), (t[i] < s ↔ i < below t s)
 | a :: t, h, s, i, hi => by
  have ha := List.pairwise_cons.1 h; unfold below; rw [List.countP_cons]
  by_cases has : a < s
  ·simp only [has, decide_true, if_true]
   cases i with
   | zero => simp [has]
   | succ i =>
    have ih := Kem ha.2 s i (by simpa using hi); unfold below at ih; simp only [List.getElem_cons_succ]; rw [ih]; omega
  ·have hz : t.countP (fun x => decide (x < s)) = 0 := by
    rw [List.countP_eq_zero]; intro x hx; have := ha.1 x hx; simp only [decide_eq_true_eq]; intro hxs; exact has (List.lt_trans this hxs)
   rw [hz]; simp only [has, decide_false, Bool.false_eq_true, if_false, Nat.zero_add, Nat.not_lt_zero, iff_false]
   cases i with
   | zero => exact has
   | succ i =>
    simp only [List.getElem_cons_succ]; intro hxs; exact has (List.lt_trans (ha.1 _ (List.getElem_mem _)) hxs)
theorem Qcp {t : List Txt} (h : Asc t) {s : Txt} {i : Nat} (hi : t[i]? = some s) : below t s = i := by
 obtain ⟨hl, e⟩ := List.getElem?_eq_some_iff.1 hi; have h1 := Kem h s i hl; rw [e] at h1; have h2 : ¬ i < below t s := fun hh => List.lt_irrefl s (h1.2 hh)
 apply Nat.le_antisymm (by
  apply Classical.byContradiction
  intro hgt; exact h2 (by omega))
 apply Classical.byContradiction; intro hlt; have hb : below t s < i := by omega
 have h3 := Kem h s (below t s) (by omega)
 have h4 : t[below t s] < s := by
  have := List.pairwise_iff_getElem.1 h (below t s) i (by omega) hl hb; rw [e] at this; exact this
 have := h3.1 h4; omega
def numR (t : List Txt) (s : Txt) : Nat × Nat := if t[below t s]? = some s then (below t s, 0) else (0, 50)
theorem Qda {t : List Txt} (h : Asc t) (s : Txt) (lt : Nat → Bool) (hlt : ∀ i (hi : i < t.length), lt i = decide (t[i] < s)) (hout : ∀ i, t.length ≤ i → lt i = false) : Lib.bsGo lt t.length 0 t.length = below t s := by
 apply Lib.bsGo_spec lt (below t s)
 ·intro i hi; have hl : i < t.length := Nat.lt_of_lt_of_le hi (Kmj t s); rw [hlt i hl, decide_eq_true_eq]; exact (Kem h s i hl).2 hi
 ·intro i hi
  by_cases hl : i < t.length
  ·rw [hlt i hl, decide_eq_false_iff_not]; intro hh; have := (Kem h s i hl).1 hh; omega
  ·exact hout i (by omega)
 ·omega
 ·omega
 ·exact Kmj t s
def Qgo (b : UInt8) : Bool := decide (48 ≤ b.toNat) && decide (b.toNat ≤ 57)
def Qex (b : UInt8) : Bool := (decide (97 ≤ b.toNat) && decide (b.toNat ≤ 122)) || (decide (65 ≤ b.toNat) && decide (b.toNat ≤ 90))
def okB (d : Bool) (b : UInt8) : Bool := (d && Qgo b) || (b.toNat == 95) || Qex b
def allOk : Bool → List UInt8 → Bool
 | _, [] => true
 | d, b :: l => okB d b && allOk true l
def fitN (s : Txt) : Bool := allOk false s && decide (1 ≤ s.length) && decide (s.length ≤ 32)
def fitV (s : Txt) : Bool := decide (1 ≤ s.length) && decide (s.length ≤ 64)
structure Lb where
 n : Txt
 v : Txt
instance : Inhabited Lb := ⟨⟨[], []⟩⟩
def names (l : List Lb) : List Txt := l.map Lb.n
def Kdj : List Lb → List Lb → Nat
 | _, [] => 0
 | pre, x :: r => if fitN x.n = false then 40 else if fitV x.v = false then 41 else if pre.any (fun y => y.n == x.n) then 42 else Kdj (pre ++ [x]) r
def Kbj (l : List Lb) : Nat := if l.length = 0 then 43 else if 8 < l.length then 44 else Kdj [] l
def Kci (l : List Lb) : Nat := if Kbj l ≠ 0 then Kbj l else if (names l).Pairwise (· < ·) then 0 else 42
def labT (x : Lb) : List UInt8 := textT x.n ++ textT x.v
def encL (l : List Lb) : List UInt8 := uintT l.length ++ l.flatMap labT
def Kfv (l : List Lb) : List UInt8 := if Kci l = 0 then encL l else []
theorem Kii : ∀ {pre l : List Lb}, Kdj pre l = 0 → (∀ x ∈ l, fitN x.n = true ∧ fitV x.v = true)
 | _, [], _ => by simp
 | pre, x :: r, h => by
  rw [Kdj] at h
  split at h
  ·omega
  ·split at h
   ·omega
   ·split at h
    ·omega
    ·rename_i h1 h2 _
     have ih := Kii h; intro y hy; rcases List.mem_cons.1 hy with rfl | hy
     ·exact ⟨by simpa using h1, by simpa using h2⟩
     ·exact ih y hy
theorem Kis : ∀ {pre l : List Lb}, Kdj pre l = 0 → (names l).Nodup ∧ ∀ x ∈ l, ∀ y ∈ pre, y.n ≠ x.n
 | _, [], _ => by simp [names]
 | pre, x :: r, h => by
  rw [Kdj] at h
  split at h
  ·omega
  ·split at h
   ·omega
   ·split at h
    ·omega
    ·rename_i hany
     obtain ⟨h1, h2⟩ := Kis h
     have hx : ∀ y ∈ pre, y.n ≠ x.n := by
      intro y hy e; apply hany; rw [List.any_eq_true]; exact ⟨y, hy, by simp [e]⟩
     refine ⟨?_, ?_⟩
     ·rw [names, List.map_cons, List.nodup_cons]; refine ⟨?_, h1⟩; intro hm; obtain ⟨z, hz, e⟩ := List.mem_map.1 hm; exact h2 z hz x (by simp) e.symm
     ·intro z hz y hy; rcases List.mem_cons.1 hz with rfl | hz
      ·exact hx y hy
      ·exact h2 z hz y (by simp [hy])
theorem Kei {l : List Lb} (h : Kbj l = 0) : l.length ≠ 0 ∧ l.length ≤ 8 ∧ (∀ x ∈ l, fitN x.n = true ∧ fitV x.v = true) ∧ (names l).Nodup := by
 unfold Kbj at h
 split at h
 ·omega
 ·split at h
  ·omega
  ·exact ⟨by omega, by omega, Kii h, (Kis h).1⟩
theorem Qgm (a b : Txt) : Lib.compareBytes a b < 0 ↔ a < b := by
 induction a generalizing b with
 | nil =>
  cases b with
  | nil => simp [Lib.compareBytes]
  | cons y b => simp [Lib.compareBytes]
 | cons x a ih =>
  cases b with
  | nil => simp [Lib.compareBytes]
  | cons y b =>
   rw [Lib.compareBytes, List.cons_lt_cons_iff]
   by_cases h1 : x < y
   ·simp [h1]
   ·by_cases h2 : y < x
    ·simp only [h1, h2, if_true, if_false, false_or]; constructor
     ·intro h; omega
     ·rintro ⟨rfl, _⟩; exact absurd h2 h1
    ·have e : x = y := by
      apply UInt8.le_antisymm
      ·exact UInt8.not_lt.1 h2
      ·exact UInt8.not_lt.1 h1
     simp only [h1, h2, if_false, false_or]; rw [ih]; simp [e]
end
section
open Go.RowKit
open Lib renaming hid → Jh
attribute [local go_sem ↓] Go.wp_at_zero Go.wp_at_succ
attribute [local go_sem] Later.cell
def Kan (s : List UInt8) (k : Int) : Nat × Nat × Nat :=
 if k < 0 then (0, 0, 20) else match readU (s.drop k.toNat) with | .error e => (0, 0, e) | .ok (v, n) => (v, k.toNat + n, 0)
def outOf (j : Nat) (r : Except Nat (Nat × Nat)) : Nat × Nat × Nat := match r with | .error e => (0, 0, e) | .ok (v, n) => (v, j + n, 0)
theorem Kcz (s : List UInt8) (j : Nat) : Kan s (j : Int) = outOf j (readU (s.drop j)) := by
 unfold Kan outOf; rw [if_neg (by omega), Int.toNat_natCast]
theorem Kpp {s : ByteArray} {i : Nat} (h : i < s.size) : s.data.toList.drop i = s[i] :: s.data.toList.drop (i + 1) := by
 rw [List.drop_eq_getElem_cons (by simpa using h)]; rfl
theorem Qgh (b : Nat) (hb : b < 256) : bits .and .u8 (b : Int) 127 = ((b % 128 : Nat) : Int) := by
 have key : ∀ x : Fin 256, bits .and .u8 ((x.val : Nat) : Int) 127 = ((x.val % 128 : Nat) : Int) := by decide +kernel
 exact key ⟨b, hb⟩
theorem Kpu (x : Nat) (h : x < 2 ^ 64) : IntKind.u64.wrap (x : Int) = (x : Int) := by
 rw [IntKind.wrap_u64]; rw [show (2 : Nat) ^ 64 = 18446744073709551616 by decide] at h; omega
theorem Qfu (acc b i : Nat) (hb : b < 256) (hi : i ≤ 9) (hacc : acc < 128 ^ i) (h9 : i = 9 → b % 128 ≤ 1) :
  bits .or .u64 (acc : Int) (IntKind.u64.wrap (IntKind.u64.wrap (bits .and .u8 (b : Int) 127) * 2 ^ (7 * i))) = ((acc + (b % 128) * 128 ^ i : Nat) : Int) := by
 have hp : (2 : Nat) ^ (7 * i) = 128 ^ i := by rw [Nat.pow_mul]
 have hx : (b % 128) * 128 ^ i < 2 ^ 64 := by
  by_cases h : i = 9
  ·subst h; have h1 := Nat.mul_le_mul_right (128 ^ 9) (h9 rfl); have h2 : 1 * 128 ^ 9 < 2 ^ 64 := by decide
   exact Nat.lt_of_le_of_lt h1 h2
  ·have h1 : (b % 128) * 128 ^ i ≤ 127 * 128 ^ i := Nat.mul_le_mul_right _ (by omega); have h2 : 127 * 128 ^ i ≤ 127 * 128 ^ 8 := Nat.mul_le_mul_left _ (Nat.pow_le_pow_right (by omega) (by omega)); have h3 : 127 * 128 ^ 8 < 2 ^ 64 := by decide
   exact Nat.lt_of_le_of_lt (Nat.le_trans h1 h2) h3
 have ha : acc < 2 ^ 64 := Nat.lt_of_lt_of_le hacc (Nat.le_trans (Nat.pow_le_pow_right (by omega) hi) (by decide)); rw [Qgh b hb, Kpu _ (Nat.lt_of_lt_of_le (Nat.mod_lt b (by omega : 128 > 0)) (by decide))]; have e1 : (((b % 128 : Nat) : Int) * 2 ^ (7 * i)) = (((b % 128) * 128 ^ i : Nat) : Int) := by rw [← hp]; simp
 have e64 : (2 : Nat) ^ 64 = 18446744073709551616 := by decide
 rw [e1, Kpu _ hx, u64_or_nat _ _ (by rw [← e64]; exact ha) (by rw [← e64]; exact hx)]; congr 1; have := Nat.shiftLeft_add_eq_or_of_lt (i := 7 * i) (b := acc) (by rw [hp]; exact hacc) (b % 128); rw [Nat.shiftLeft_eq, hp] at this; rw [Nat.or_comm, ← this, Nat.add_comm]
theorem Kam (s : ByteArray) (k : Int) (v n e : Nat) (hr : Kan s.data.toList k = (v, n, e)) (hs : s.size ≤ 140737488351232) (w : World) :
  Calls Tryz.prog 78 #[.string s, .int .i64 k] w fun en w' => en = .returned (.tuple #[.int .u64 v, .int .i64 n, .int .i64 e]) ∧ w = w' := by
 by_cases hk : k < 0
 ·have e0 : decide (k < 0) = true := by simpa using hk
  obtain ⟨rfl, rfl, rfl⟩ : 0 = v ∧ 0 = n ∧ 20 = e := by simpa [Kan, hk] using hr
  clear hr; go_enter Tryz.func78, Tryz.ntmps78
  go_wp2_with fail
  go_ret3
  exact ⟨rfl, rfl⟩
 ·obtain ⟨j, rfl⟩ := Int.eq_ofNat_of_zero_le (Int.not_lt.1 hk); rw [Kcz] at hr; have e0 : decide ((j : Int) < 0) = false := by simp
  by_cases hj : j < s.size
  ·have e1 : decide ((s.size : Int) ≤ (j : Int)) = false := by simp; omega
   have e1' : decide (s.size ≤ j) = false := by simp; omega
   have HR := Jh hr; clear hr hk; go_enter Tryz.func78, Tryz.ntmps78
   go_wp2_with fail
   go_loopg [7, 18] 10 (fun g s7 s18 wr => wr = w ∧ ∃ i acc : Nat, i + g = 10 ∧ s18 = .int .i64 (i : Int) ∧ s7 = .int .u64 (acc : Int) ∧ i ≤ 9 ∧ acc < 128 ^ i ∧ j + i ≤ s.size ∧ outOf j (readG i acc (s.data.toList.drop (j + i))) = (v, n, e))
   case atStart => exact ⟨rfl, 0, 0, rfl, rfl, rfl, by omega, by simp, by omega, HR.out⟩
   case round =>
    obtain ⟨rfl, i, acc, hig, rfl, rfl, hi9, hacc, hjs, hout⟩ := hrel; obtain ⟨w, rfl⟩ : ∃ x, x = wr := ⟨_, rfl⟩; have HIG := Jh hig; clear hig; have HACC := Jh hacc; clear hacc
    by_cases hend : j + i = s.size
    ·have e2 : ((j : Int) + (i : Int) == (s.size : Int)) = true := by rw [beq_iff_eq]; omega
     rw [List.drop_of_length_le (by simp; omega)] at hout; obtain ⟨rfl, rfl, rfl⟩ : 0 = v ∧ 0 = n ∧ 20 = e := by simpa [outOf, readG] using hout
     clear hout hend; go_wp2_with fail
     go_ret3
     exact ⟨rfl, rfl⟩
    ·have e2 : ((j : Int) + (i : Int) == (s.size : Int)) = false := by rw [beq_eq_false_iff_ne]; omega
     have hlt : j + i < s.size := by omega
     rw [Kpp hlt] at hout; obtain ⟨b, hb⟩ : ∃ b, s[j + i] = b := ⟨_, rfl⟩; have hbl := UInt8.toNat_lt b; rw [hb, readG] at hout; have HO := Jh hout; clear hout hend; go_upto_region 10 with fail
     clear e0 e1 e2 e1'; go_cut [45] (fun s45 wz => s45 = .bool (decide ((i = 9 ∧ 1 < b.toNat) ∨ (0 < i ∧ b.toNat = 0))) ∧ wz = w)
     case first =>
      clear hb; obtain ⟨x9, h9⟩ : ∃ x, ((i : Int) == 9) = x := ⟨_, rfl⟩; obtain ⟨x1, h1⟩ : ∃ x, decide ((1 : Int) < (b.toNat : Int)) = x := ⟨_, rfl⟩; obtain ⟨x0, h0⟩ : ∃ x, decide (0 < i) = x := ⟨_, rfl⟩; obtain ⟨xb, hb⟩ : ∃ x, ((b.toNat : Int) == 0) = x := ⟨_, rfl⟩
      have hfin : decide ((i = 9 ∧ 1 < b.toNat) ∨ (0 < i ∧ b.toNat = 0)) = ((x9 && x1) || (x0 && xb)) := by
       rw [← h9, ← h1, ← h0, ← hb, Bool.eq_iff_iff]; simp only [decide_eq_true_eq, Bool.or_eq_true, Bool.and_eq_true, beq_iff_eq]; omega
      have HF := Jh hfin; clear hfin; cases x9 <;> cases x1 <;> cases x0 <;> cases xb
      all_goals
       go_wp2_with fail
       go_meet
       exact ⟨vb (by rw [HF.out]; rfl), rfl⟩
     case rest =>
      obtain ⟨rfl, rfl⟩ := hcut; have hout := HO.out
      by_cases hbad : (i = 9 ∧ 1 < b.toNat) ∨ (0 < i ∧ b.toNat = 0)
      ·rw [if_pos hbad] at hout; obtain ⟨rfl, rfl, rfl⟩ : 0 = v ∧ 0 = n ∧ 21 = e := by simpa [outOf] using hout
       rw [decide_eq_true hbad]; clear hout hbad HO; go_wp2_with fail
       go_ret3
       exact ⟨rfl, rfl⟩
      ·rw [if_neg hbad] at hout; rw [decide_eq_false hbad]; have hval := Qfu acc b.toNat i hbl hi9 HACC.out (fun h9 => by omega); have HV := Jh hval; have HO2 := Jh hout
       have hn9 : ¬ b.toNat < 128 → i < 9 := fun h => by
        apply Classical.byContradiction; intro h'; exact hbad (.inl ⟨by omega, by omega⟩)
       have HN9 := Jh hn9; clear hout hbad HO hval hn9; go_upto_region 13 with fail
       rw [HV.out]; clear HV
       by_cases h128 : b.toNat < 128
       ·have hout := HO2.out; rw [if_pos h128, outOf] at hout; obtain ⟨hv, hn, he⟩ : acc + b.toNat * 128 ^ i = v ∧ j + (i + 1) = n ∧ 0 = e := by simpa using hout
        have hq2 : acc + b.toNat % 128 * 128 ^ i = v := by rw [← hv, Nat.mod_eq_of_lt h128]
        rw [hq2]; have HN := Jh hn; have HE := Jh he; clear hout HO2 hv hq2 hb hn he; go_wp2_with fail
        go_ret3
        exact ⟨ret3 rfl (vi (by have := HN.out; omega)) (vi (by rw [← HE.out]; rfl)), rfl⟩
       ·have hout := HO2.out; rw [if_neg h128] at hout; obtain ⟨q, hq⟩ : ∃ q, acc + b.toNat % 128 * 128 ^ i = q := ⟨_, rfl⟩; have hq2 : acc + (b.toNat - 128) * 128 ^ i = q := by rw [← hq]; congr 2; omega
        rw [hq2] at hout
        have hql : q < 128 ^ (i + 1) := by
         rw [← hq, Nat.pow_succ]; have h1 : (b.toNat % 128) * 128 ^ i ≤ 127 * 128 ^ i := Nat.mul_le_mul_right _ (by omega); have := HACC.out; omega
        have h9 := HN9.out h128; rw [hq]; have HO3 := Jh hout; have HQL := Jh hql; clear hout HO2 hq hq2 hb hql HACC; go_wp2_with fail
        go_roundg (gk - 1)
        case measure => have := HIG.out; omega
        case rel => exact ⟨rfl, i + 1, q, by have := HIG.out; omega, by go_num, rfl, by omega, HQL.out, by omega, HO3.out⟩
  ·rw [List.drop_of_length_le (by simp; omega)] at hr; obtain ⟨rfl, rfl, rfl⟩ : 0 = v ∧ 0 = n ∧ 20 = e := by simpa [outOf, readU, readG] using hr
   clear hr hk; have e1 : decide ((s.size : Int) ≤ (j : Int)) = true := by simp; omega
   go_enter Tryz.func78, Tryz.ntmps78
   go_wp2_with fail
   go_ret3
   exact ⟨rfl, rfl⟩
def Kbe (s : List UInt8) (k : Int) : List UInt8 × Nat × Nat :=
 if k < 0 then ([], 0, 20) else match readT (s.drop k.toNat) with | .error e => ([], 0, e) | .ok (t, n) => (t, k.toNat + n, 0)
theorem Kka (s : ByteArray) (a b : Nat) : (s.extract a b).data.toList = (s.data.toList.drop a).take (b - a) := by
 simp only [ByteArray.data_extract, Array.toList_extract]
theorem Kfi (s : ByteArray) (k : Int) (t : List UInt8) (n e : Nat) (hr : Kbe s.data.toList k = (t, n, e)) (hs : s.size ≤ 140737488351232) (w : World) :
  Calls Tryz.prog 91 #[.string s, .int .i64 k] w fun en w' => en = .returned (.tuple #[.string ⟨t.toArray⟩, .int .i64 n, .int .i64 e]) ∧ w = w' := by
 by_cases hk : k < 0
 ·obtain ⟨rfl, rfl, rfl⟩ : [] = t ∧ 0 = n ∧ 20 = e := by simpa [Kbe, hk] using hr
  have hra : Kan s.data.toList k = (0, 0, 20) := by simp [Kan, hk]
  have HRA := Jh hra; clear hr hra; go_enter Tryz.func91, Tryz.ntmps91
  go_wp2_with fail
  refine (Kam s k 0 0 20 HRA.out hs w).mono ?_; rintro en w1 ⟨rfl, rfl⟩; go_wp2_with fail
  go_ret3
  exact ⟨rfl, rfl⟩
 ·obtain ⟨j, rfl⟩ := Int.eq_ofNat_of_zero_le (Int.not_lt.1 hk); have hra := Kcz s.data.toList j; rw [Kbe, if_neg hk, Int.toNat_natCast, readT] at hr; obtain ⟨l, hl⟩ : ∃ l, s.data.toList.drop j = l := ⟨_, rfl⟩; have hlen : l.length = s.size - j := by rw [← hl, List.length_drop]; rfl
  rw [hl] at hr hra
  cases hu : readU l with
  | error c =>
   rw [hu] at hr hra; have hra' : Kan s.data.toList j = (0, 0, c) := hra; obtain ⟨rfl, rfl, rfl⟩ : [] = t ∧ 0 = n ∧ c = e := by simpa using hr
   have hc0 : c ≠ 0 := Kdf hu; have e1 : ((c : Int) != 0) = true := by simp; omega
   have HRA := Jh hra'; clear hr hra hra' hl hu hlen hk; go_enter Tryz.func91, Tryz.ntmps91
   go_wp2_with fail
   refine (Kam s j 0 0 c HRA.out hs w).mono ?_; rintro en w1 ⟨rfl, rfl⟩; go_wp2_with fail
   go_ret3
   exact ⟨rfl, rfl⟩
  | ok vk =>
   obtain ⟨v, m⟩ := vk; rw [hu] at hr hra; have hra' : Kan s.data.toList j = (v, j + m, 0) := hra; have hlt := Kdd hu
   have hv64 : v ≤ 18446744073709551615 := by
    have := hlt.1; rw [show (2 : Nat) ^ 64 = 18446744073709551616 by decide] at this; omega
   have hm1 := hlt.2.1; have hm2 := hlt.2.2.1; have hmj : j + m ≤ s.size := by omega
   simp only at hr; have HRA := Jh hra'
   by_cases hshort : l.length - m < v
   ·rw [if_pos hshort] at hr; obtain ⟨rfl, rfl, rfl⟩ : [] = t ∧ 0 = n ∧ 20 = e := by simpa using hr
    have hsh : s.size - (j + m) < v := by omega
    have e1 : decide ((s.size : Int) - ((j : Int) + (m : Int)) < (v : Int)) = true := by simp; omega
    clear hr hra hra' hl hu hlen hk hshort hlt; go_enter Tryz.func91, Tryz.ntmps91
    go_wp2_with fail
    refine (Kam s j v (j + m) 0 HRA.out hs w).mono ?_; rintro en w1 ⟨rfl, rfl⟩; go_wp2_with fail
    go_ret3
    exact ⟨rfl, rfl⟩
   ·rw [if_neg hshort] at hr; obtain ⟨ht, hn, he⟩ : (l.drop m).take v = t ∧ j + (m + v) = n ∧ 0 = e := by simpa using hr
    have hsh : j + m + v ≤ s.size := by omega
    have e1 : decide ((s.size : Int) - ((j : Int) + (m : Int)) < (v : Int)) = false := by simp; omega
    have htt : (s.data.toList.drop (j + m)).take v = t := by rw [← ht, ← hl, List.drop_drop]
    have HT := Jh htt; have HN := Jh hn; have HE := Jh he; have z1 : (0 : Int) ≤ (j : Int) + (m : Int) := by omega
    have z2 : (j : Int) + (m : Int) ≤ (j : Int) + (m : Int) + (v : Int) := by omega
    have z3 : (j : Int) + (m : Int) + (v : Int) ≤ (s.size : Int) := by omega
    clear hr hra hra' hl hu hlen hk hshort hlt ht hn he htt; go_enter Tryz.func91, Tryz.ntmps91
    go_wp2_with fail
    refine (Kam s j v (j + m) 0 HRA.out hs w).mono ?_; rintro en w1 ⟨rfl, rfl⟩; go_wp2_with fail
    go_ret3
    refine ⟨ret3 (congrArg Value.string (Ktm (a := s.extract (j + m) (j + m + v)) ?_)) (vi (by have := HN.out; omega)) (vi (by rw [← HE.out]; rfl)), rfl⟩; rw [Kka, show j + m + v - (j + m) = v by omega, HT.out]
theorem Qgf (d : Bool) (b : UInt8) : okB d b = ((d && (decide ((48 : Int) ≤ (b.toNat : Int)) && decide ((b.toNat : Int) ≤ 57))) || !(((b.toNat : Int) != 95) && (decide (bits .or .u8 (b.toNat : Int) 32 < 97) || decide (122 < bits .or .u8 (b.toNat : Int) 32)))) := by
 have key : ∀ (x : Fin 256) (d : Bool), okB d (UInt8.ofNat x.val) = ((d && (decide ((48 : Int) ≤ (x.val : Int)) && decide ((x.val : Int) ≤ 57))) || !(((x.val : Int) != 95) && (decide (bits .or .u8 (x.val : Int) 32 < 97) || decide (122 < bits .or .u8 (x.val : Int) 32)))) := by decide +kernel
 have h := key ⟨b.toNat, UInt8.toNat_lt b⟩ d; simp only [UInt8.ofNat_toNat] at h; exact h
theorem Kgc (s : ByteArray) : s.toList.isEmpty = decide (s.size = 0) := by
 rw [ByteArray.toList_eq, Bool.eq_iff_iff]; simp only [List.isEmpty_iff, decide_eq_true_eq]; rw [← Kah]; constructor
 ·intro h; rw [h]; rfl
 ·intro h; exact List.eq_nil_of_length_eq_zero h
theorem Kze {s : ByteArray} {i : Nat} (h : i < s.size) {R : Bool} (hr : allOk (decide (0 < i)) (s.data.toList.drop i) = R) : (okB (decide (0 < i)) s[i] && allOk (decide (0 < i + 1)) (s.data.toList.drop (i + 1))) = R := by
 rw [Kpp h, allOk] at hr; simpa using hr
theorem Krr (s : ByteArray) (r : Bool) (hr : fitN s.data.toList = r) (hs : s.size ≤ 140737488351232) (w : World) :
  Calls Tryz.prog 191 #[.string s] w fun e w' => e = .returned (.bool r) ∧ w = w' := by
 obtain ⟨R, hR⟩ : ∃ R, allOk false s.data.toList = R := ⟨_, rfl⟩; have hrr : (R && (decide (1 ≤ s.size) && decide (s.size ≤ 32))) = r := by rw [← hr, ← hR, fitN, Kah, Bool.and_assoc]
 have HRR := Jh hrr; have HR := Jh hR; clear hr hrr hR; go_enter Tryz.func191, Tryz.ntmps191
 go_upto_block 0 with fail
 go_cut [] (fun wz => wz = w ∧ R = true)
 case first =>
  go_wp2_with fail
  go_loopg [7] s.size (fun g s7 wr => wr = w ∧ ∃ i : Nat, i + g = s.size ∧ s7 = .int .i64 (i : Int) ∧ allOk (decide (0 < i)) (s.data.toList.drop i) = R)
  case atStart => exact ⟨rfl, 0, by omega, rfl, by simpa using HR.out⟩
  case round =>
   obtain ⟨rfl, i, hig, rfl, hall⟩ := hrel; obtain ⟨w, rfl⟩ : ∃ x, x = wr := ⟨_, rfl⟩; have HIG := Jh hig; have HALL := Jh hall; clear hig hall
   by_cases hi : i < s.size
   ·have hst := Kze hi HALL.out; obtain ⟨b, hb⟩ : ∃ b, s[i] = b := ⟨_, rfl⟩; have hbl := UInt8.toNat_lt b; rw [hb, Qgf] at hst; obtain ⟨x48, h48⟩ : ∃ x, decide ((48 : Int) ≤ (b.toNat : Int)) = x := ⟨_, rfl⟩; obtain ⟨x57, h57⟩ : ∃ x, decide ((b.toNat : Int) ≤ 57) = x := ⟨_, rfl⟩; obtain ⟨x0, h0⟩ : ∃ x, decide (0 < i) = x := ⟨_, rfl⟩; obtain ⟨x95, h95⟩ : ∃ x, ((b.toNat : Int) != 95) = x := ⟨_, rfl⟩; obtain ⟨xa, ha⟩ : ∃ x, decide (bits .or .u8 (b.toNat : Int) 32 < 97) = x := ⟨_, rfl⟩; obtain ⟨xz, hz⟩ : ∃ x, decide (122 < bits .or .u8 (b.toNat : Int) 32) = x := ⟨_, rfl⟩; rw [h48, h57, h0, h95, ha, hz] at hst; have HST := Jh hst; have H0 := Jh h0; clear hst; have el : decide ((i : Int) < (s.size : Int)) = true := by simp; omega
    have el' : decide (i < s.size) = true := by simp; omega
    go_upto_region 5 with fail
    clear hb; go_cut [13] (fun s13 wz => s13 = .bool (x48 && x57) ∧ wz = w)
    case first =>
     cases x48 <;> cases x57
     all_goals
      go_wp2_with fail
      go_meet
      exact ⟨rfl, rfl⟩
    case rest =>
     obtain ⟨rfl, rfl⟩ := hcut; obtain ⟨w, rfl⟩ : ∃ x, x = wc := ⟨_, rfl⟩; obtain ⟨dg, hdg⟩ : ∃ d, (x48 && x57) = d := ⟨_, rfl⟩; have hst := HST.out; rw [hdg] at hst ⊢; have HST2 := Jh hst; clear HST hst hdg h48 h57; obtain ⟨skip, hskip⟩ : ∃ d, (x0 && dg) = d := ⟨_, rfl⟩
     cases skip with
     | true =>
      obtain ⟨rfl, rfl⟩ : x0 = true ∧ dg = true := by simpa using hskip
      clear hskip; go_wp2_with fail
      go_roundg (gk - 1)
      case measure => have := HIG.out; omega
      case rel => exact ⟨rfl, i + 1, by have := HIG.out; omega, by go_num, by have := HST2.out; simpa using this⟩
     | false =>
      have hst := HST2.out; rw [hskip] at hst; have HST3 := Jh hst; clear hst HST2; cases dg <;> cases x0
      case true.true => simp at hskip
      all_goals
       clear hskip; go_upto_region 7 with fail
       go_cut [33] (fun s33 wz => s33 = .bool (x95 && (xa || xz)) ∧ wz = w)
       case first =>
        cases x95 <;> cases xa <;> cases xz
        all_goals
         go_wp2_with fail
         go_meet
         exact ⟨rfl, rfl⟩
       case rest =>
        obtain ⟨rfl, rfl⟩ := hcut; obtain ⟨w, rfl⟩ : ∃ x, x = wc := ⟨_, rfl⟩; obtain ⟨bad, hbad⟩ : ∃ d, (x95 && (xa || xz)) = d := ⟨_, rfl⟩; have hst := HST3.out; rw [hbad] at hst ⊢; have HST4 := Jh hst; clear hst HST3 hbad
        cases bad with
        | true =>
         have hRf : R = false := by have := HST4.out; simpa using this.symm
         have hrf : r = false := by rw [← HRR.out, hRf]; rfl
         subst hrf; clear hRf; go_wp2_with fail
         go_ret
         exact ⟨rfl, rfl⟩
        | false =>
         go_wp2_with fail
         go_roundg (gk - 1)
         case measure => have := HIG.out; omega
         case rel => exact ⟨rfl, i + 1, by have := HIG.out; omega, by go_num, by have := HST4.out; simpa using this⟩
   ·have hRt : R = true := by
     have := HALL.out; rw [List.drop_of_length_le (by rw [Kah]; omega), allOk] at this; exact this.symm
    have HRT := Jh hRt; clear hRt; go_wp2_with fail
    go_meet
    exact ⟨rfl, HRT.out⟩
 case rest =>
  obtain ⟨rfl, hRt⟩ := hcut; obtain ⟨w, rfl⟩ : ∃ x, x = wc := ⟨_, rfl⟩; have hrr := HRR.out; rw [hRt, Bool.true_and] at hrr; have HRR2 := Jh hrr; clear hrr hRt
  by_cases h0 : s.size = 0
  ·have hE : s.toList.isEmpty = true := by rw [Kgc]; simp [h0]
   have hL : s.toList = [] := by simpa using hE
   have hrf : r = false := by rw [← HRR2.out, h0]; rfl
   subst hrf; clear h0; go_wp2_with fail
   go_ret
   exact ⟨rfl, rfl⟩
  ·have hE : s.toList.isEmpty = false := by rw [Kgc]; simp [h0]
   obtain ⟨x, hx⟩ : ∃ x, decide ((s.size : Int) ≤ 32) = x := ⟨_, rfl⟩
   have hrf : r = x := by
    rw [← HRR2.out, ← hx, Bool.eq_iff_iff]; simp only [Bool.and_eq_true, decide_eq_true_eq]; omega
   subst hrf; clear h0; go_wp2_with fail
   go_ret
   exact ⟨rfl, rfl⟩
set_option maxHeartbeats 400000 in
theorem Kow (s : ByteArray) (r : Bool) (hr : fitV s.data.toList = r) (hs : s.size ≤ 140737488351232) (w : World) :
  Calls Tryz.prog 192 #[.string s] w fun e w' => e = .returned (.bool r) ∧ w = w' := by
 have hrr : (decide (1 ≤ s.size) && decide (s.size ≤ 64)) = r := by rw [← hr, fitV, Kah]
 have HRR2 := Jh hrr; clear hr hrr
 by_cases h0 : s.size = 0
 ·have hE : s.toList.isEmpty = true := by rw [Kgc]; simp [h0]
  have hL : s.toList = [] := by simpa using hE
  have hrf : r = false := by rw [← HRR2.out, h0]; rfl
  subst hrf; clear h0; go_enter Tryz.func192, Tryz.ntmps192
  go_wp2_with fail
  go_ret
  exact ⟨rfl, rfl⟩
 ·have hE : s.toList.isEmpty = false := by rw [Kgc]; simp [h0]
  obtain ⟨x, hx⟩ : ∃ x, decide ((s.size : Int) ≤ 64) = x := ⟨_, rfl⟩
  have hrf : r = x := by
   rw [← HRR2.out, ← hx, Bool.eq_iff_iff]; simp only [Bool.and_eq_true, decide_eq_true_eq]; omega
  subst hrf; clear h0; go_enter Tryz.func192, Tryz.ntmps192
  go_wp2_with fail
  go_ret
  exact ⟨rfl, rfl⟩
end
section
open Go.RowKit Go.Sort
open Lib renaming hid → Jh
attribute [local go_sem ↓] Go.wp_at_zero Go.wp_at_succ
attribute [local go_sem] Later.cell
def encLb (x : Lb) : List Value := [.string ⟨x.n.toArray⟩, .string ⟨x.v.toArray⟩]
set_option maxHeartbeats 400000 in
theorem Kgn (x y : Lb) (W : World) :
  Calls Tryz.prog 130 #[.agg (encLb x).toArray, .agg (encLb y).toArray] W fun e w' => e = .returned (.int .i64 (Lib.compareBytes x.n y.n)) ∧ ∃ q os', w' = grow (W.drewN q) os' := by
 obtain ⟨xn, xv⟩ := x; obtain ⟨yn, yv⟩ := y; have hcon := fun W' => Tryz.strings_Compare ⟨xn.toArray⟩ ⟨yn.toArray⟩ W'
 simp only [List.toList_toArray] at hcon; obtain ⟨r, hr⟩ : ∃ r, Lib.compareBytes xn yn = r := ⟨_, rfl⟩; simp only [hr] at hcon ⊢; have HC := Jh hcon; clear hcon hr; unfold encLb; obtain ⟨X, hX⟩ : ∃ X : ByteArray, (⟨xn.toArray⟩ : ByteArray) = X := ⟨_, rfl⟩; obtain ⟨Y, hY⟩ : ∃ X : ByteArray, (⟨yn.toArray⟩ : ByteArray) = X := ⟨_, rfl⟩; simp only [hX, hY] at HC ⊢; clear hX hY; go_enter Tryz.func130, Tryz.ntmps130
 go_wp2_with fail
 refine (HC.out _).mono ?_; rintro e w' ⟨rfl, rfl⟩; go_wp2_with fail
 go_ret
 exact ⟨rfl, 0, _, by rw [alloc_eq_grow, alloc_eq_grow, grow_grow]; rfl⟩
set_option maxHeartbeats 400000 in
theorem Kwj (nm : Txt) (p : Nat) (w : World) (hp : w.cell? ⟨p, 0, none⟩ = some (.string ⟨nm.toArray⟩)) :
  PredBelow Tryz.prog 194 #[.pointer (some ⟨p, 0, none⟩)] (fun x => .agg (encLb x).toArray) (fun x => x.n == nm) w := by
 intro W x hb; have hp' := later hb hp; obtain ⟨xn, xv⟩ := x; have hfin : ((⟨xn.toArray⟩ : ByteArray).toList == (⟨nm.toArray⟩ : ByteArray).toList) = (xn == nm) := by rw [ByteArray.toList_eq, ByteArray.toList_eq]
 obtain ⟨r, hr⟩ : ∃ r, (xn == nm) = r := ⟨_, rfl⟩; rw [hr] at hfin; simp only [hr]; unfold encLb; obtain ⟨X, hX⟩ : ∃ X : ByteArray, (⟨xn.toArray⟩ : ByteArray) = X := ⟨_, rfl⟩; obtain ⟨Y, hY⟩ : ∃ X : ByteArray, (⟨nm.toArray⟩ : ByteArray) = X := ⟨_, rfl⟩; rw [hX, hY] at hfin; rw [hY] at hp'; simp only [hX]; clear hX hY hr hp; have hpl : p < W.heap.size := Kek hp'; show Calls Tryz.prog 194 #[.agg #[.string X, .string ⟨xv.toArray⟩], .pointer (some ⟨p, 0, none⟩)] W _
 go_enter Tryz.func194, Tryz.ntmps194
 go_wp2_with fail
 go_ret
 exact ⟨rfl, hb.alloc hb.size _⟩
theorem Kvg {α : Type} [Inhabited α] (enc : α → List Value) (k : Nat) (w : World) (blk off n : Nat) (d : Array α) (os : Array Obj) : w.grownBy (sortWorldK enc k w blk off n d os) (some blk) := by
 refine ⟨rfl, rfl, rfl, ?_, ?_⟩
 ·simp [sortWorldK, grow, putRowK, putRow, mapBlock, Sort.ahead]
 ·intro j hj hne; have hb : ¬ blk = j := fun e => hne (by rw [e])
  simp only [sortWorldK, grow, putRowK, putRow, mapBlock, Sort.ahead]; rw [Array.getElem?_append_left (by simpa using hj), Array.getElem?_modify, if_neg hb]
theorem Kmi : (Tryz.prog.info? 99).map (fun i => (i.zero, i.size, i.bytes)) = some (some (.agg #[.string ⟨#[]⟩, .string ⟨#[]⟩]), 2, 32) := by kernel_rfl
theorem Kbt (x : Lb) : (encLb x).length = 2 := rfl
theorem Kkg (x : Lb) : ∀ v ∈ encLb x, v.oneCell' = true := by
 intro v hv; simp [encLb] at hv; rcases hv with rfl | rfl <;> rfl
theorem Kup (l : List Lb) : (l.flatMap encLb).length = l.length * 2 := by
 induction l with
 | nil => rfl
 | cons x l ih => rw [List.flatMap_cons, List.length_append, ih, Kbt, List.length_cons]; omega
theorem Kde : ∀ (l : List Lb) (t : Nat), t < l.length * 2 → (l.flatMap encLb)[t]? = (encLb l[t / 2]!)[t % 2]?
 | [], t, h => by simp at h
 | x :: l, t, h => by
  rw [List.flatMap_cons]
  by_cases h2 : t < 2
  ·rw [List.getElem?_append_left (by rw [Kbt]; exact h2), show t / 2 = 0 by omega, show t % 2 = t by omega]; simp
  ·rw [List.getElem?_append_right (by rw [Kbt]; omega), Kbt, Kde l (t - 2) (by simp at h; omega), show (t - 2) / 2 = t / 2 - 1 by omega, show (t - 2) % 2 = t % 2 by omega]; congr 2; obtain ⟨m, hm⟩ : ∃ m, t / 2 = m + 1 := ⟨t / 2 - 1, by omega⟩; rw [hm]; simp
theorem Khu {w : World} {B b off n : Nat} {l : List Lb} (h : Elems w B 2 encLb (some ⟨b, off, none⟩) n l) (hn : 0 < n) : ∀ t, t < l.length * 2 → w.cell? ⟨b, off + t, none⟩ = (l.flatMap encLb)[t]? := by
 intro t ht; obtain ⟨b', off', e, _, hc⟩ := h.2 hn; injection e with e; injection e with e1 e2; subst e1 e2; rw [Kde l t ht]; have hl : t / 2 < l.length := by omega
 have h1 : l[t / 2]? = some l[t / 2]! := by rw [getElem!_pos l _ hl, List.getElem?_eq_getElem hl]
 have h2 : t % 2 < (encLb l[t / 2]!).length := by rw [Kbt]; omega
 have := hc (t / 2) _ h1 (t % 2) _ (List.getElem?_eq_getElem h2); rw [List.getElem?_eq_getElem h2, ← this]; congr 2; omega
theorem Koz (l : List Lb) (b off n c : Nat) (w : World) (h : Elems w w.heap.size 2 encLb (some ⟨b, off, none⟩) n l) (hn : 0 < n) (hn8 : n ≤ 8) :
  Calls Tryz.prog 61 #[.slice (some ⟨b, off, none⟩) n c] w fun e w' => ∃ g cap, e = .returned (.slice (some ⟨g, 0, none⟩) n cap) ∧ w'.ownsRow w.heap.size 99 2 (.slice (some ⟨g, 0, none⟩) n cap) n (l.flatMap encLb) ∧ Below w.heap.size w w' := by
 obtain ⟨i0, hi0, hz0, hz1, hz2⟩ := info_parts Kmi; have hl := h.len
 have hcon := AnyE.slices_Clone Tryz.laysCL i0 _ 2 32 hi0 hz0 hz1 hz2 rfl (by omega) Tryz.sizeOf99 b off n c (l.flatMap encLb) w (by rw [Kup, hl]) (by unfold maxLen; omega) (by omega)
  (fun j u hu => by
   have hj := (List.getElem?_eq_some_iff.1 hu).1; rw [Kup] at hj
   rw [Khu h hn j hj]; exact hu)
  (fun u hu => by
   obtain ⟨x, _, hx⟩ := List.mem_flatMap.1 hu
   exact Kkg x u hx)
 refine hcon.mono ?_; rintro e w' ⟨v', rfl, hown, hne, hb⟩; rcases hown.2 with ⟨rfl, _⟩ | ⟨g, cap, cur, rfl, h1⟩
 ·exact absurd rfl hne
 ·exact ⟨g, cap, rfl, hown, hb⟩
theorem Ktl (n : Nat) (W : World) (h : n ≤ 12) : Calls Tryz.prog 174 #[.int .u64 n] W fun e w' => (∃ l : Int, e = .returned (.int .i64 l)) ∧ w' = W :=
 (Tryz.bits_Len n W (by omega) (by omega)).mono fun _ _ ⟨he, hw⟩ => ⟨⟨_, he⟩, hw⟩
theorem Kri (l : List Lb) (g cap n B : Nat) (w : World) (hown : w.ownsRow B 99 2 (.slice (some ⟨g, 0, none⟩) n cap) n (l.flatMap encLb)) (hl : l.length = n) (hn8 : n ≤ 8) :
  Calls Tryz.prog 119 #[.slice (some ⟨g, 0, none⟩) n cap, .func (.func 130) #[] #[]] w fun e w' => e = .returned (.tuple #[]) ∧ w.grownBy w' (some g) := by
 have hlt := hown.lt g rfl; rcases hown.2 with ⟨he, _⟩ | ⟨g', cap', cur, he, h1, h2, h3, h4, h5, h6⟩
 ·cases he
 ·injection he with he _ _; injection he with he; injection he with he _ _; subst he
  have hH : HoldsK encLb 2 w g 0 l.toArray := by
   intro t ht; rw [size_flatK] at ht; have ht' : t < l.length * 2 := by simpa using ht
   refine ⟨?_, by simp [World.frozen?, h2]⟩; rw [get_flatK _ _ _ _ ht, Nat.zero_add, cell_of_row w g t cur _ (0, 0) h2]
   have e1 : cur[t]? = (l.flatMap encLb)[t]? := by
    rw [← h6, List.getElem?_take_of_lt (by omega)]; simp
   rw [e1, Kde l t ht']; have h2' : t % 2 < (encLb l[t / 2]!).length := by rw [Kbt]; omega
   simp only [List.getElem!_toArray, id]; rw [getElem!_pos (encLb l[t / 2]!) (t % 2) h2', List.getElem?_eq_getElem h2']
  have eg : ∀ args w, (callFunc 130 args).run Tryz.prog w = .ok (.enter 130 args) w := enters_of Tryz.func130 (by kernel_rfl) rfl; have hcon := AnyQ.slices_SortFunc_small Tryz.laysSFL 2 Tryz.isAgg99 Tryz.sizeOf99 encLb Kbt Kkg (fun x y => Lib.compareBytes x.n y.n) 130 #[] g 0 cap l.toArray w eg (fun _ _ _ _ x y => Kgn x y _) hH hlt.2 (by simp; omega) Ktl; simp only [List.size_toArray, hl] at hcon; refine hcon.mono ?_; rintro e w' ⟨rfl, m, os, rfl⟩; exact ⟨rfl, Kvg _ _ _ _ _ _ _ _⟩
theorem Kku (l : List Lb) (nm : Txt) (b off i c p : Nat) (w : World) (r : Bool) (hr : (l.take i).any (fun x => x.n == nm) = r) (hi : i ≤ l.length) (hl8 : l.length ≤ 8) (hb : b < w.heap.size) (hp : w.cell? ⟨p, 0, none⟩ = some (.string ⟨nm.toArray⟩))
  (hc : ∀ t, t < l.length * 2 → w.cell? ⟨b, off + t, none⟩ = (l.flatMap encLb)[t]?) :
  Calls Tryz.prog 193 #[.slice (some ⟨b, off, none⟩) i c, .func (.func 194) #[] #[.pointer (some ⟨p, 0, none⟩)]] w fun e w' => e = .returned (.bool r) ∧ Below w.heap.size w w' := by
 have eg : ∀ args w, (callFunc 194 args).run Tryz.prog w = .ok (.enter 194 args) w := enters_of Tryz.func194 (by kernel_rfl) rfl
 have hcon := AnyQ.slices_ContainsFunc Tryz.laysCFL 2 Tryz.isAgg99 Tryz.sizeOf99 encLb Kbt (fun x => x.n == nm) 194 #[.pointer (some ⟨p, 0, none⟩)] eg b off i c l w (Kwj nm p w hp) hi (by omega) hb
  (fun j hj k v hv => by
   have hk : k < 2 := by have := (List.getElem?_eq_some_iff.1 hv).1; rw [Kbt] at this; exact this
   have := hc (j * 2 + k) (by omega); rw [Kde l (j * 2 + k) (by omega), show (j * 2 + k) / 2 = j by omega, show (j * 2 + k) % 2 = k by omega, hv] at this; rw [← this]; congr 2
   omega)
 rw [hr] at hcon; exact hcon
def Qfw (w : World) (c : Nat) (e : Ending) (w' : World) : Prop := (∃ v, e = .returned (.tuple #[v, .int .i64 (c : Nat)])) ∧ Below w.heap.size w w'
theorem Khy (l : List Lb) (A : Option Addr) (n c : Nat) (w : World) (hE : Elems w w.heap.size 2 encLb A n l) (hnc : n ≤ c) (hnm : n ≤ 140737488351232) (hz : ∀ x ∈ l, x.n.length ≤ 140737488351232 ∧ x.v.length ≤ 140737488351232) :
  Calls Tryz.prog 160 #[.slice A n c] w (Qfw w (Kbj l)) := by
 have hl := hE.len
 by_cases h0 : n = 0
 ·subst h0; have hm : Kbj l = 43 := by rw [Kbj, if_pos hl]
  rw [hm]; clear hm; go_enter Tryz.func160, Tryz.ntmps160
  go_wp2_with fail
  go_ret2
  exact ⟨⟨_, rfl⟩, Below.refl _ _⟩
 ·have e0 : ((n : Int) == 0) = false := by rw [beq_eq_false_iff_ne]; omega
  by_cases h8 : 8 < n
  ·have hm : Kbj l = 44 := by rw [Kbj, if_neg (by omega), if_pos (by omega)]
   rw [hm]; have e8 : decide ((8 : Int) < (n : Int)) = true := by simp; omega
   clear hm; go_enter Tryz.func160, Tryz.ntmps160
   go_wp2_with fail
   go_ret2
   exact ⟨⟨_, rfl⟩, Below.refl _ _⟩
  ·have e8 : decide ((8 : Int) < (n : Int)) = false := by simp; omega
   obtain ⟨R, hR⟩ : ∃ R, Kdj [] l = R := ⟨_, rfl⟩; have hm : Kbj l = R := by rw [Kbj, if_neg (by omega), if_neg (by omega), hR]
   rw [hm]; obtain ⟨b, off, rfl, hbl, _⟩ := hE.2 (by omega); have hcells := Khu hE (by omega); have HC := Jh hcells; have HR := Jh hR; have HZ := Jh hz; have HLEN := Jh hl; have hn0 : 0 < n := by omega
   clear hm hR hz hcells hl h0; go_enter Tryz.func160, Tryz.ntmps160
   go_upto_block 1 with fail
   clear e0 e8; go_cut [] (fun wz => Below w.heap.size w wz ∧ R = 0)
   case first =>
    go_wp2_with fail
    go_loopg [17] n (fun g s17 wr => ∃ i : Nat, i + g = n ∧ s17 = .int .i64 (i : Int) ∧ Kdj (l.take i) (l.drop i) = R ∧ Below w.heap.size w wr)
    case atStart => exact ⟨0, by omega, rfl, by simpa using HR.out, Below.refl _ _⟩
    case round =>
     obtain ⟨i, hig, rfl, hsc, hB⟩ := hrel; have HIG := Jh hig; have HSC := Jh hsc; clear hig hsc
     by_cases hi : i < n
     ·have el : decide ((i : Int) < (n : Int)) = true := by simp; omega
      have el' : decide (i < n) = true := by simp; omega
      have hil : i < l.length := by have := HLEN.out; omega
      obtain ⟨x, hx⟩ : ∃ x, l[i] = x := ⟨_, rfl⟩; have hxm : x ∈ l := by rw [← hx]; exact List.getElem_mem hil
      have hxz := HZ.out x hxm; have hsc := HSC.out; rw [List.drop_eq_getElem_cons hil, hx, Kdj] at hsc
      have hx0 : (l.flatMap encLb)[i * 2]? = some (.string ⟨x.n.toArray⟩) := by
       rw [Kde l _ (by omega), show i * 2 / 2 = i by omega, show i * 2 % 2 = 0 by omega, getElem!_pos l i hil, hx]; rfl
      have hx1 : (l.flatMap encLb)[i * 2 + 1]? = some (.string ⟨x.v.toArray⟩) := by
       rw [Kde l _ (by omega), show (i * 2 + 1) / 2 = i by omega, show (i * 2 + 1) % 2 = 1 by omega, getElem!_pos l i hil, hx]; rfl
      have c0 : wr.cell? ⟨b, off + i * 2, none⟩ = some (.string ⟨x.n.toArray⟩) := ((hB.cell (p := ⟨b, off + i * 2, none⟩) hbl).trans (HC.out _ (by omega))).trans hx0; have c1 : wr.cell? ⟨b, off + i * 2 + 1, none⟩ = some (.string ⟨x.v.toArray⟩) := ((hB.cell (p := ⟨b, off + i * 2 + 1, none⟩) hbl).trans (HC.out (i * 2 + 1) (by omega))).trans hx1; obtain ⟨N, hN⟩ : ∃ N : ByteArray, (⟨x.n.toArray⟩ : ByteArray) = N := ⟨_, rfl⟩; obtain ⟨V, hV⟩ : ∃ N : ByteArray, (⟨x.v.toArray⟩ : ByteArray) = N := ⟨_, rfl⟩; rw [hN] at c0; rw [hV] at c1; have hNn : N.data.toList = x.n := by rw [← hN]
      have hVv : V.data.toList = x.v := by rw [← hV]
      have hNz : N.size ≤ 140737488351232 := by rw [← Kah, hNn]; exact hxz.1
      have hVz : V.size ≤ 140737488351232 := by rw [← Kah, hVv]; exact hxz.2
      have HSC2 := Jh hsc; have HN := Jh hN; have HNn := Jh hNn; have HVv := Jh hVv; have HX := Jh hx; clear hsc hx0 hx1 hx hN hV hNn hVv hxz hxm; go_upto_region 8 with fail
      have hq : Blk (wr.alloc (.cells #[.string N, .string V] 99)) wr.heap.size 99 #[.string N, .string V] := Blk.new _ _ _; have hB1 : Below w.heap.size w (wr.alloc (.cells #[.string N, .string V] 99)) := hB.alloc hB.size _; obtain ⟨w1, hw1⟩ : ∃ w1, wr.alloc (.cells #[.string N, .string V] 99) = w1 := ⟨_, rfl⟩; obtain ⟨p, hp⟩ : ∃ p, wr.heap.size = p := ⟨_, rfl⟩; rw [hw1] at hq hB1 ⊢; rw [hp] at hq ⊢; clear hw1 hp c0 c1 hB; have q0 : _ = some (Value.string N) := hq.cell 0; have q1 : _ = some (Value.string V) := hq.cell 1; obtain ⟨rn, hrn⟩ : ∃ r, fitN x.n = r := ⟨_, rfl⟩; obtain ⟨rv, hrv⟩ : ∃ r, fitV x.v = r := ⟨_, rfl⟩; obtain ⟨ra, hra⟩ : ∃ r, (l.take i).any (fun y => y.n == x.n) = r := ⟨_, rfl⟩; have hsc := HSC2.out; rw [hrn, hrv, hra] at hsc; have HSC3 := Jh hsc; have HRN := Jh (show fitN N.data.toList = rn by rw [HNn.out, hrn]); have HRV := Jh (show fitV V.data.toList = rv by rw [HVv.out, hrv]); have HRA := Jh hra; clear hsc HSC2 hrn hrv hra; go_wp2_with fail
      refine (Krr N rn HRN.out hNz w1).mono ?_; rintro e w2 ⟨rfl, rfl⟩
      cases rn with
      | false =>
       obtain rfl : 40 = R := by have := HSC3.out; simpa using this
       go_wp2_with fail
       go_ret2
       exact ⟨⟨_, rfl⟩, hB1⟩
      | true =>
       go_wp2_with fail
       refine (Kow V rv HRV.out hVz w1).mono ?_; rintro e w2 ⟨rfl, rfl⟩
       cases rv with
       | false =>
        obtain rfl : 41 = R := by have := HSC3.out; simpa using this
        go_wp2_with fail
        go_ret2
        exact ⟨⟨_, rfl⟩, hB1⟩
       | true =>
        have hmf : ∀ (fn : Fn) (first cap : Array Value) (w : World), (Instr.makeFunc fn first cap).run Tryz.prog w = .ok (.func fn first cap) w := fun _ _ _ _ => rfl
        have hci : (i : Int) ≤ (c : Int) := by omega
        go_wp2_with fail
        refine (Kku l x.n b off i c p w1 ra HRA.out (by omega) (by have := HLEN.out; omega) (by have := hB1.size; omega) (by rw [HN.out]; exact q0) (fun t ht => (hB1.cell (p := ⟨b, off + t, none⟩) hbl).trans (HC.out t ht))).mono ?_; rintro e w3 ⟨rfl, hb3⟩; have hB3 : Below w.heap.size w w3 := hB1.trans (hb3.mono hB1.size)
        cases ra with
        | true =>
         obtain rfl : 42 = R := by have := HSC3.out; simpa using this
         go_wp2_with fail
         go_ret2
         exact ⟨⟨_, rfl⟩, hB3⟩
        | false =>
         go_wp2_with fail
         go_roundg (gk - 1)
         case measure => have := HIG.out; omega
         case rel =>
          refine ⟨i + 1, by have := HIG.out; omega, by go_num, ?_, hB3⟩; rw [List.take_succ_eq_append_getElem hil, HX.out]; have := HSC3.out; simpa using this
     ·have hR0 : R = 0 := by
       have := HSC.out; rw [List.drop_of_length_le (by have := HLEN.out; omega), Kdj] at this; exact this.symm
      have HR0 := Jh hR0; have el : decide ((i : Int) < (n : Int)) = false := by simp; omega
      have el' : decide (i < n) = false := by simp; omega
      clear hR0; go_wp2_with fail
      go_meet
      exact ⟨hB, HR0.out⟩
   case rest =>
    obtain ⟨hB, hR0⟩ := hcut; obtain ⟨w1, rfl⟩ : ∃ x, x = wc := ⟨_, rfl⟩; have hE1 : Elems w1 w1.heap.size 2 encLb (some ⟨b, off, none⟩) n l := (hE.below hB).more hB.size; have HR0 := Jh hR0; clear hR0; go_wp2_with fail
    refine (Koz l b off n c w1 hE1 (by omega) (by omega)).mono ?_; rintro e w2 ⟨g, cap, rfl, hown, hb2⟩; go_wp2_with fail
    refine (Kri l g cap n _ w2 hown HLEN.out (by omega)).mono ?_; rintro e w3 ⟨rfl, hg3⟩; go_wp2_with fail
    go_ret2
    refine ⟨⟨_, by rw [HR0.out]; rfl⟩, ?_⟩; have hgl := hown.lt g rfl; have hB2 := hB.trans (hb2.mono hB.size); exact hB2.trans ⟨hg3.os, hg3.tape, hg3.output, hg3.size, fun k hk => hg3.block k (by have := hB2.size; omega) (fun e => by injection e with e; have := hB.size; omega)⟩
end
end Go.Proofs.YtdoiekknhnbepaaGreatDoor
