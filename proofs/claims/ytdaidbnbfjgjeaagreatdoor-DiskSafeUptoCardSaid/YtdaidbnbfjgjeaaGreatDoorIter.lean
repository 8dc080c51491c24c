/-
  DERIVED: THE SHELF's CONTRACTS AT THIS DUMP, IN PLAIN WORDS (tools/lay-plain.mjs out of 'TryIter.lean', which tools/lay-shelf.mjs wrote): THE SAME DECLARATIONS UNDER THE SAME NAMES: 'import', 'namespace', 'open', 'def', 'theorem' AND NOTHING ELSE: no command of the shelf's: FOR A HAND-IN. Each laying: the table of numbers ('.._ren') and one theorem, a field a fact of the dump's own or the kernel's comparison; each contract: ONE APPLICATION.
-/
import Derived.Shelf.SlIter.Nil
import Derived.Shelf.SortM.Plain
import Derived.Shelf.SortM.SortNone
import Derived.Test.YtdaidbnbfjgjeaaGreatDoorProg
namespace Go.Proofs
open Go.Shelf
def Tryz.keys41_ren : Go.Shelf.Ren := ⟨fun | 7 => 41 | 10 => 82 | n => n, fun | 23 => 66 | 26 => 9 | 3 => 75 | 28 => 91 | 0 => 0 | 27 => 90 | 33 => 74 | 4 => 4 | n => n, fun | n => n⟩
theorem Tryz.keys41 : Go.Proofs.SlLaysZ.n7 Tryz.prog Tryz.keys41_ren := {
  mixed := by kernel_rfl
  f7 := ⟨Tryz.f41.name, by decide, Tryz.func41.trans (congrArg some (by kernel_rfl))⟩
  f10 := ⟨Tryz.f82.name, by decide, Tryz.func82.trans (congrArg some (by kernel_rfl))⟩
  t0 := Tryz.underlying0
  a0 := Tryz.isAgg0
  z0 := Tryz.sizeOf0
  v0 := Tryz.zeroValue0
  t4 := Tryz.underlying4
  a4 := Tryz.isAgg4
  z4 := Tryz.sizeOf4
  v4 := Tryz.zeroValue4
  t23 := Tryz.underlying66
  a23 := Tryz.isAgg66
  z23 := Tryz.sizeOf66
  v23 := Tryz.zeroValue66
  t26 := Tryz.underlying9
  a26 := Tryz.isAgg9
  z26 := Tryz.sizeOf9
  v26 := Tryz.zeroValue9
  t27 := Tryz.underlying90
  a27 := Tryz.isAgg90
  z27 := Tryz.sizeOf90
  v27 := Tryz.zeroValue90
  t28 := Tryz.underlying91
  a28 := Tryz.isAgg91
  z28 := Tryz.sizeOf91
  v28 := Tryz.zeroValue91
  t33 := Tryz.underlying74
  a33 := Tryz.isAgg74
  z33 := Tryz.sizeOf74
  v33 := Tryz.zeroValue74 }
def Tryz.sorted40_ren : Go.Shelf.Ren := ⟨fun | 6 => 40 | 8 => 80 | 9 => 81 | 11 => 106 | 13 => 87 | 12 => 107 | 23 => 121 | 24 => 122 | 14 => 126 | 15 => 127 | 16 => 128 | 17 => 129 | 18 => 130 | 19 => 131 | 20 => 132 | 21 => 133 | 22 => 134 | 25 => 147 | 26 => 143 | 27 => 144 | 28 => 148 | 29 => 149 | 30 => 150 | 31 => 154 | n => n, fun | 26 => 9 | 28 => 91 | 24 => 22 | 0 => 0 | 3 => 3 | 37 => 142 | 48 => 170 | 50 => 172 | 4 => 4 | 40 => 163 | 39 => 162 | 45 => 167 | 5 => 5 | 9 => 9 | 51 => 187 | 55 => 191 | 57 => 196 | 58 => 146 | 33 => 74 | n => n, fun | n => n⟩
theorem Tryz.sorted40 : Go.Proofs.SlLaysZ.n6 Tryz.prog Tryz.sorted40_ren := {
  mixed := by kernel_rfl
  f6 := ⟨Tryz.f40.name, by decide, Tryz.func40.trans (congrArg some (by kernel_rfl))⟩
  f8 := ⟨Tryz.f80.name, by decide, Tryz.func80.trans (congrArg some (by kernel_rfl))⟩
  f11 := ⟨Tryz.f106.name, by decide, Tryz.func106.trans (congrArg some (by kernel_rfl))⟩
  t0 := Tryz.underlying0
  a0 := Tryz.isAgg0
  z0 := Tryz.sizeOf0
  v0 := Tryz.zeroValue0
  t24 := Tryz.underlying22
  a24 := Tryz.isAgg22
  z24 := Tryz.sizeOf22
  v24 := Tryz.zeroValue22
  t26 := Tryz.underlying9
  a26 := Tryz.isAgg9
  z26 := Tryz.sizeOf9
  v26 := Tryz.zeroValue9
  t28 := Tryz.underlying91
  a28 := Tryz.isAgg91
  z28 := Tryz.sizeOf91
  v28 := Tryz.zeroValue91
  i26 := by kernel_rfl }
def Tryz.sort81_ren : Go.Shelf.Ren := ⟨fun | 6 => 81 | 8 => 87 | 9 => 107 | 19 => 121 | 20 => 122 | 21 => 126 | 22 => 127 | 23 => 128 | 24 => 129 | 25 => 130 | 26 => 131 | 27 => 132 | 28 => 133 | 29 => 134 | 36 => 147 | 31 => 143 | 32 => 144 | 37 => 148 | 38 => 149 | 39 => 150 | 41 => 154 | n => n, fun | 27 => 22 | 29 => 9 | 3 => 3 | 32 => 142 | 26 => 22 | 0 => 0 | 44 => 170 | 46 => 172 | 4 => 4 | 36 => 163 | 35 => 162 | 41 => 167 | 5 => 5 | 9 => 9 | 53 => 187 | 57 => 191 | 63 => 196 | 64 => 146 | n => n, fun | n => n⟩
theorem Tryz.sort81 : Go.Proofs.SlLaysM.n6 Tryz.prog Tryz.sort81_ren := {
  mixed := by kernel_rfl
  f6 := ⟨Tryz.f81.name, by decide, Tryz.func81.trans (congrArg some (by kernel_rfl))⟩
  f8 := Tryz.func87.trans (congrArg some (by kernel_rfl))
  f9 := ⟨Tryz.f107.name, by decide, Tryz.func107.trans (congrArg some (by kernel_rfl))⟩
  f19 := Tryz.func121.trans (congrArg some (by kernel_rfl))
  f20 := Tryz.func122.trans (congrArg some (by kernel_rfl))
  f21 := ⟨Tryz.f126.name, by decide, Tryz.func126.trans (congrArg some (by kernel_rfl))⟩
  f22 := ⟨Tryz.f127.name, by decide, Tryz.func127.trans (congrArg some (by kernel_rfl))⟩
  f23 := ⟨Tryz.f128.name, by decide, Tryz.func128.trans (congrArg some (by kernel_rfl))⟩
  f24 := ⟨Tryz.f129.name, by decide, Tryz.func129.trans (congrArg some (by kernel_rfl))⟩
  f25 := ⟨Tryz.f130.name, by decide, Tryz.func130.trans (congrArg some (by kernel_rfl))⟩
  f26 := ⟨Tryz.f131.name, by decide, Tryz.func131.trans (congrArg some (by kernel_rfl))⟩
  f27 := ⟨Tryz.f132.name, by decide, Tryz.func132.trans (congrArg some (by kernel_rfl))⟩
  f28 := ⟨Tryz.f133.name, by decide, Tryz.func133.trans (congrArg some (by kernel_rfl))⟩
  f29 := ⟨Tryz.f134.name, by decide, Tryz.func134.trans (congrArg some (by kernel_rfl))⟩
  f31 := Tryz.func143.trans (congrArg some (by kernel_rfl))
  f32 := Tryz.func144.trans (congrArg some (by kernel_rfl))
  f36 := ⟨Tryz.f147.name, by decide, Tryz.func147.trans (congrArg some (by kernel_rfl))⟩
  f37 := ⟨Tryz.f148.name, by decide, Tryz.func148.trans (congrArg some (by kernel_rfl))⟩
  f38 := ⟨Tryz.f149.name, by decide, Tryz.func149.trans (congrArg some (by kernel_rfl))⟩
  f39 := ⟨Tryz.f150.name, by decide, Tryz.func150.trans (congrArg some (by kernel_rfl))⟩
  f41 := ⟨Tryz.f154.name, by decide, Tryz.func154.trans (congrArg some (by kernel_rfl))⟩
  t0 := Tryz.underlying0
  a0 := Tryz.isAgg0
  z0 := Tryz.sizeOf0
  v0 := Tryz.zeroValue0
  t3 := Tryz.underlying3
  a3 := Tryz.isAgg3
  z3 := Tryz.sizeOf3
  v3 := Tryz.zeroValue3
  t4 := Tryz.underlying4
  a4 := Tryz.isAgg4
  z4 := Tryz.sizeOf4
  v4 := Tryz.zeroValue4
  t5 := Tryz.underlying5
  a5 := Tryz.isAgg5
  z5 := Tryz.sizeOf5
  v5 := Tryz.zeroValue5
  t9 := Tryz.underlying9
  a9 := Tryz.isAgg9
  z9 := Tryz.sizeOf9
  v9 := Tryz.zeroValue9
  t26 := Tryz.underlying22
  a26 := Tryz.isAgg22
  z26 := Tryz.sizeOf22
  v26 := Tryz.zeroValue22
  t27 := Tryz.underlying22
  a27 := Tryz.isAgg22
  z27 := Tryz.sizeOf22
  v27 := Tryz.zeroValue22
  t29 := Tryz.underlying9
  a29 := Tryz.isAgg9
  z29 := Tryz.sizeOf9
  v29 := Tryz.zeroValue9
  t32 := Tryz.underlying142
  a32 := Tryz.isAgg142
  z32 := Tryz.sizeOf142
  v32 := Tryz.zeroValue142
  t35 := Tryz.underlying162
  a35 := Tryz.isAgg162
  z35 := Tryz.sizeOf162
  v35 := Tryz.zeroValue162
  t36 := Tryz.underlying163
  a36 := Tryz.isAgg163
  z36 := Tryz.sizeOf163
  v36 := Tryz.zeroValue163
  t41 := Tryz.underlying167
  a41 := Tryz.isAgg167
  z41 := Tryz.sizeOf167
  v41 := Tryz.zeroValue167
  t44 := Tryz.underlying170
  a44 := Tryz.isAgg170
  z44 := Tryz.sizeOf170
  v44 := Tryz.zeroValue170
  t46 := Tryz.underlying172
  a46 := Tryz.isAgg172
  z46 := Tryz.sizeOf172
  v46 := Tryz.zeroValue172
  t53 := Tryz.underlying187
  a53 := Tryz.isAgg187
  z53 := Tryz.sizeOf187
  v53 := Tryz.zeroValue187
  t57 := Tryz.underlying191
  a57 := Tryz.isAgg191
  z57 := Tryz.sizeOf191
  v57 := Tryz.zeroValue191
  t63 := Tryz.underlying196
  a63 := Tryz.isAgg196
  z63 := Tryz.sizeOf196
  v63 := Tryz.zeroValue196
  t64 := Tryz.underlying146
  a64 := Tryz.isAgg146
  z64 := Tryz.sizeOf146
  v64 := Tryz.zeroValue146 }
open Go.RowKit Go.Maps Go.Sort Go.Shelf


/-- slices.Sort's two contracts at this dump, at the fence that asks nothing. -/
theorem Tryz.sorts40 (m : Nat) : AnyZ.SortsIn Tryz.prog Tryz.sorted40_ren Fence.wide m :=
  ⟨fun blk off cap ss W hH hblk hsz => callsIn_wide.2 (AnyM.slices_Sort_string Tryz.sort81 blk off cap ss W hH hblk hsz),
   fun p cap W => callsIn_wide.2 (AnyM.slices_Sort_string_none Tryz.sort81 p cap W)⟩

/-- **maps.Keys[map[string]*almanac/disk.file,string,*almanac/disk.file], at whatever map, the nil one too:** a function value over ONE NEW BLOCK, which holds the map. -/
theorem Tryz.maps_Keys_41 (mb : Option Nat) (W : World) : CallsIn Fence.wide 5 Tryz.prog 41 #[.map mb] W fun e w' => e = .returned (.func (.func 82) #[] #[.pointer (some ⟨W.heap.size, 0, none⟩)]) ∧ w' = W.alloc (.cells #[.map mb] 66) :=
  AnyZ.keys_in Tryz.keys41 Fence.wide 5 trivial rfl mb W

set_option maxHeartbeats 1000000 in
/-- **slices.Sorted[string] AT WHAT maps.Keys[map[string]*almanac/disk.file,string,*almanac/disk.file] HANDED BACK FOR A MAP THAT IS NOT nil** ('w': the world AHEAD of maps.Keys' call): A NEW SLICE THAT HOLDS THE MAP's KEYS, SORTED; nil just where it has none; nothing that lay before has turned. -/
theorem Tryz.slices_Sorted_keys_40_41 {H : Type} (b nn : Nat) (D0 : DataW H) (R : Value → Option (DataW H × List MemPlace)) (w : World) (hown : w.ownsMap Tryz.prog 9 R b nn D0) (hmax : Maps.size D0 ≤ maxLen) (hbytes : Maps.size D0 * 16 ≤ 140737488355328) :
    CallsIn Fence.wide 5 Tryz.prog 40 #[.func (.func 82) #[] #[.pointer (some ⟨w.heap.size, 0, none⟩)]] (w.alloc (.cells #[.map (some b)] 66)) fun e w' => ∃ (v : Value) (ss : List (List UInt8)), e = .returned v ∧ ss.Perm (strKeys D0) ∧
      w'.ownsRow (w.alloc (.cells #[.map (some b)] 66)).heap.size 9 1 v ss.length ((ss.mergeSort (fun x y => decide (x ≤ y))).map encStr) ∧ (v = .slice none 0 0 ↔ ss = []) ∧ Below (w.alloc (.cells #[.map (some b)] 66)).heap.size (w.alloc (.cells #[.map (some b)] 66)) w' := by
  have hbl := hown.lt
  have hseq : SeqGives Fence.wide 2 Tryz.prog 82 #[.pointer (some ⟨w.heap.size, 0, none⟩)] encStr (fun ss => ss.Perm (strKeys D0)) (Maps.size D0) (w.alloc (.cells #[.map (some b)] 66)) :=
    AnyZ.keys_gives (ρ := Tryz.keys41_ren) { Tryz.keys41 with } Fence.wide _ trivial rfl (by omega) w.heap.size b nn D0 _ (by simp) (by simp) (by
      obtain ⟨es, clock, hb, Ft, hs, hD⟩ := hown
      exact ⟨es, clock, (Below.heap_alloc _ _ b hbl).trans hb, Ft, hs, hD⟩)
  exact AnyZ.sorted_in Tryz.sorted40 Fence.wide 5 trivial trivial trivial trivial rfl (by omega) (Tryz.sorts40 _) (enters_of Tryz.func81 (by kernel_rfl) rfl) 82 #[.pointer (some ⟨w.heap.size, 0, none⟩)] trivial (enters_of Tryz.func82 (by kernel_rfl) rfl) _ _ hmax hbytes _ hseq

set_option maxHeartbeats 1000000 in
/-- **.. AND FOR THE nil MAP: nil.** -/
theorem Tryz.slices_Sorted_keys_nil_40_41 (w : World) :
    CallsIn Fence.wide 5 Tryz.prog 40 #[.func (.func 82) #[] #[.pointer (some ⟨w.heap.size, 0, none⟩)]] (w.alloc (.cells #[.map none] 66)) fun e w' => ∃ (v : Value) (ss : List (List UInt8)), e = .returned v ∧ ss = [] ∧
      w'.ownsRow (w.alloc (.cells #[.map none] 66)).heap.size 9 1 v ss.length ((ss.mergeSort (fun x y => decide (x ≤ y))).map encStr) ∧ (v = .slice none 0 0 ↔ ss = []) ∧ Below (w.alloc (.cells #[.map none] 66)).heap.size (w.alloc (.cells #[.map none] 66)) w' := by
  have hseq : SeqGives Fence.wide 2 Tryz.prog 82 #[.pointer (some ⟨w.heap.size, 0, none⟩)] encStr (fun ss : List (List UInt8) => ss = []) 0 (w.alloc (.cells #[.map none] 66)) :=
    AnyZ.keys_gives_nil (ρ := Tryz.keys41_ren) { Tryz.keys41 with } Fence.wide _ trivial rfl w.heap.size _ (by simp) (by simp)
  exact AnyZ.sorted_in Tryz.sorted40 Fence.wide 5 trivial trivial trivial trivial rfl (by omega) (Tryz.sorts40 _) (enters_of Tryz.func81 (by kernel_rfl) rfl) 82 #[.pointer (some ⟨w.heap.size, 0, none⟩)] trivial (enters_of Tryz.func82 (by kernel_rfl) rfl) _ 0 (Nat.zero_le _) (by omega) _ hseq


end Go.Proofs
