/- Merged (what the claim wants of): Shelf, ShelfC, ChkWalksB, ChkWalksC, Builder, EncWalksA, EncWalksB, SymPlain, LabPlain, EncWalksC, EncWalksD, LabWalksA. -/
import Derived.Shelf.SlicesE.Clone
import Derived.Shelf.SlSortCmp.NoneTotal
import Derived.Shelf.SlMaps.Clone
import Derived.Shelf.SlicesQ.IndexFunc
import Derived.Shelf.SlSortCmp.SmallK
import Derived.Shelf.Spec.SearchS
import Derived.Shelf.Strings.Builder1
import Derived.Shelf.Strings.Builder2
import Derived.Shelf.Small.Bits
import Derived.Shelf.Small.Strs
import Derived.Shelf.Strings.BuilderF
import Derived.Shelf.Strings.BuilderK
import Derived.Shelf.Strconv.Itoa0
import Derived.Shelf.Strings.Search1
import Derived.Shelf.Strings.Search2
import Derived.Shelf.Strings.Search3
import Derived.Shelf.Strings.Cut
import Derived.Shelf.LaysM
import Derived.Shelf.Strings.Shaped
import Derived.Shelf.Bits.Mul64
import Derived.Shelf.SortM.Plain
import Derived.Shelf.SortM.SortNone
import Derived.Test.YtefpndiiedkmpaaGreatDoorProg
import Derived.Shelf.Spec.TrailingZeros
import Derived.Test.YtefpndiiedkmpaaGreatDoorKpw01
import Derived.Deep.LoopGhost
import Derived.Deep.CutBlock
import Derived.IntWalk
import Derived.Maps.AppendAt
import Derived.Laws.IdiomStrings
import Derived.Lib.SlicesCompact
import Derived.Lib.Bytealg
set_option linter.unusedVariables false
set_option linter.unusedSimpArgs false
set_option maxRecDepth 100000
set_option maxHeartbeats 8000000
namespace Go.Proofs
open Go.Shelf
def Tryz.lays125_ren:Go.Shelf.Ren:=⟨fun | 125=>125 | 128=>172 | 129=>173 | n=>n,fun | 46=>171 | 3=>3 | 51=>184 | 53=>79 | 4=>4 | 5=>5 | 9=>9 | n=>n,fun | n=>n⟩
theorem Tryz.lays125:Go.Proofs.Lays.n125 Tryz.prog Tryz.lays125_ren:={
 mixed:=by kernel_rfl
 f125:=Tryz.func125.trans (congrArg some (by kernel_rfl))
 f128:=Tryz.func172.trans (congrArg some (by kernel_rfl))
 f129:=Tryz.func173.trans (congrArg some (by kernel_rfl))
 t3:=Tryz.underlying3
 a3:=Tryz.isAgg3
 z3:=Tryz.sizeOf3
 v3:=Tryz.zeroValue3
 t4:=Tryz.underlying4
 a4:=Tryz.isAgg4
 z4:=Tryz.sizeOf4
 v4:=Tryz.zeroValue4
 t5:=Tryz.underlying5
 a5:=Tryz.isAgg5
 z5:=Tryz.sizeOf5
 v5:=Tryz.zeroValue5
 t9:=Tryz.underlying9
 a9:=Tryz.isAgg9
 z9:=Tryz.sizeOf9
 v9:=Tryz.zeroValue9
 t46:=Tryz.underlying171
 a46:=Tryz.isAgg171
 z46:=Tryz.sizeOf171
 v46:=Tryz.zeroValue171
 t51:=Tryz.underlying184
 a51:=Tryz.isAgg184
 z51:=Tryz.sizeOf184
 v51:=Tryz.zeroValue184
 t53:=Tryz.underlying79
 a53:=Tryz.isAgg79
 z53:=Tryz.sizeOf79
 v53:=Tryz.zeroValue79 }
theorem Tryz.bits_Len (x:Int) (w:World) (h0:0≤x) (h1:x≤18446744073709551615) :
  Calls Tryz.prog 125 #[.int .u64 x] w fun e w'=>e = .returned (.int .i64 (Lib.bitLen x.toNat))∧w'=w:=Any.bits_Len Tryz.lays125 x w h0 h1
def Tryz.lays134_ren:Go.Shelf.Ren:=⟨fun | 134=>201 | 129=>173 | n=>n,fun | 53=>79 | 3=>3 | 4=>4 | 46=>171 | 5=>5 | 9=>9 | n=>n,fun | n=>n⟩
theorem Tryz.lays134:Go.Proofs.Lays.n134 Tryz.prog Tryz.lays134_ren:={
 mixed:=by kernel_rfl
 f129:=Tryz.func173.trans (congrArg some (by kernel_rfl))
 f134:=Tryz.func201.trans (congrArg some (by kernel_rfl))
 t3:=Tryz.underlying3
 a3:=Tryz.isAgg3
 z3:=Tryz.sizeOf3
 v3:=Tryz.zeroValue3
 t4:=Tryz.underlying4
 a4:=Tryz.isAgg4
 z4:=Tryz.sizeOf4
 v4:=Tryz.zeroValue4
 t5:=Tryz.underlying5
 a5:=Tryz.isAgg5
 z5:=Tryz.sizeOf5
 v5:=Tryz.zeroValue5
 t9:=Tryz.underlying9
 a9:=Tryz.isAgg9
 z9:=Tryz.sizeOf9
 v9:=Tryz.zeroValue9
 t46:=Tryz.underlying171
 a46:=Tryz.isAgg171
 z46:=Tryz.sizeOf171
 v46:=Tryz.zeroValue171
 t53:=Tryz.underlying79
 a53:=Tryz.isAgg79
 z53:=Tryz.sizeOf79
 v53:=Tryz.zeroValue79 }
theorem Tryz.bits_LeadingZeros64 (x:Int) (w:World) (h0:0≤x) (h1:x≤18446744073709551615) :
  Calls Tryz.prog 201 #[.int .u64 x] w fun e w'=>e = .returned (.int .i64 (64 - (Lib.bitLen x.toNat:Int)))∧w'=w:=Any.bits_LeadingZeros64 Tryz.lays134 x w h0 h1
def Tryz.lays213_ren:Go.Shelf.Ren:=⟨fun | 213=>126 | 265=>174 | n=>n,fun | 9=>9 | 3=>3 | n=>n,fun | n=>n⟩
def Tryz.lays106_ren:Go.Shelf.Ren:=⟨fun | 106=>71 | 213=>126 | 265=>174 | n=>n,fun | 9=>9 | 3=>3 | n=>n,fun | n=>n⟩
theorem Tryz.lays106:Go.Proofs.Lays.n106 Tryz.prog Tryz.lays106_ren:={
 mixed:=by kernel_rfl
 f106:=Tryz.func71.trans (congrArg some (by kernel_rfl))
 f213:=Tryz.func126.trans (congrArg some (by kernel_rfl))
 f265:=Tryz.func174.trans (congrArg some (by kernel_rfl))
 t3:=Tryz.underlying3
 a3:=Tryz.isAgg3
 z3:=Tryz.sizeOf3
 v3:=Tryz.zeroValue3
 t9:=Tryz.underlying9
 a9:=Tryz.isAgg9
 z9:=Tryz.sizeOf9
 v9:=Tryz.zeroValue9 }
open Go.RowKit in
theorem Tryz.strings_Compare (a b:ByteArray) (w:World) :
  Calls Tryz.prog 71 #[.string a,.string b] w fun e w'=>e = .returned (.int .i64 (Lib.compareBytes a.data.toList b.data.toList))∧w'=w:=Any.strings_Compare Tryz.lays106 a b w
def Tryz.lays219_ren:Go.Shelf.Ren:=⟨fun | 219=>161 | 217=>210 | 225=>211 | 224=>212 | 267=>213 | 266=>249 | 314=>250 | n=>n,fun | 9=>9 | 3=>3 | 4=>4 | 5=>5 | 46=>171 | 146=>319 | 51=>184 | n=>n,fun | 1=>8 | n=>n⟩
theorem Tryz.lays219:Go.Proofs.Lays.n219 Tryz.prog Tryz.lays219_ren:={
 mixed:=by kernel_rfl
 f217:=Tryz.func210.trans (congrArg some (by kernel_rfl))
 f219:=Tryz.func161.trans (congrArg some (by kernel_rfl))
 f224:=Tryz.func212.trans (congrArg some (by kernel_rfl))
 f225:=Tryz.func211.trans (congrArg some (by kernel_rfl))
 f266:=Tryz.func249.trans (congrArg some (by kernel_rfl))
 f267:=Tryz.func213.trans (congrArg some (by kernel_rfl))
 f314:=Tryz.func250.trans (congrArg some (by kernel_rfl))
 t3:=Tryz.underlying3
 a3:=Tryz.isAgg3
 z3:=Tryz.sizeOf3
 v3:=Tryz.zeroValue3
 t4:=Tryz.underlying4
 a4:=Tryz.isAgg4
 z4:=Tryz.sizeOf4
 v4:=Tryz.zeroValue4
 t5:=Tryz.underlying5
 a5:=Tryz.isAgg5
 z5:=Tryz.sizeOf5
 v5:=Tryz.zeroValue5
 t9:=Tryz.underlying9
 a9:=Tryz.isAgg9
 z9:=Tryz.sizeOf9
 v9:=Tryz.zeroValue9
 t46:=Tryz.underlying171
 a46:=Tryz.isAgg171
 z46:=Tryz.sizeOf171
 v46:=Tryz.zeroValue171
 t51:=Tryz.underlying184
 a51:=Tryz.isAgg184
 z51:=Tryz.sizeOf184
 v51:=Tryz.zeroValue184
 t146:=Tryz.underlying319
 a146:=Tryz.isAgg319
 z146:=Tryz.sizeOf319
 v146:=Tryz.zeroValue319
 g1:=by kernel_rfl }
open Go.RowKit Go.Lib in
theorem Tryz.stringslite_Index_one (s:ByteArray) (c:UInt8) (w:World) :
  Calls Tryz.prog 161 #[.string s,.string ⟨#[c]⟩] w fun e w'=>e = .returned (.int .i64 (Lib.indexByte s.data.toList c))∧w'=w:=Any.stringslite_Index_one Tryz.lays219 s c w
def Tryz.lays144_ren:Go.Shelf.Ren:=⟨fun | 144=>67 | 143=>121 | 219=>161 | 217=>210 | 225=>211 | 224=>212 | 267=>213 | 266=>249 | 314=>250 | n=>n,fun | 9=>9 | 4=>4 | 3=>3 | 5=>5 | 46=>171 | 146=>319 | 51=>184 | n=>n,fun | 1=>8 | n=>n⟩
theorem Tryz.lays144:Go.Proofs.Lays.n144 Tryz.prog Tryz.lays144_ren:={
 mixed:=by kernel_rfl
 f143:=Tryz.func121.trans (congrArg some (by kernel_rfl))
 f144:=Tryz.func67.trans (congrArg some (by kernel_rfl))
 f217:=Tryz.func210.trans (congrArg some (by kernel_rfl))
 f219:=Tryz.func161.trans (congrArg some (by kernel_rfl))
 f224:=Tryz.func212.trans (congrArg some (by kernel_rfl))
 f225:=Tryz.func211.trans (congrArg some (by kernel_rfl))
 f266:=Tryz.func249.trans (congrArg some (by kernel_rfl))
 f267:=Tryz.func213.trans (congrArg some (by kernel_rfl))
 f314:=Tryz.func250.trans (congrArg some (by kernel_rfl))
 t3:=Tryz.underlying3
 a3:=Tryz.isAgg3
 z3:=Tryz.sizeOf3
 v3:=Tryz.zeroValue3
 t4:=Tryz.underlying4
 a4:=Tryz.isAgg4
 z4:=Tryz.sizeOf4
 v4:=Tryz.zeroValue4
 t5:=Tryz.underlying5
 a5:=Tryz.isAgg5
 z5:=Tryz.sizeOf5
 v5:=Tryz.zeroValue5
 t9:=Tryz.underlying9
 a9:=Tryz.isAgg9
 z9:=Tryz.sizeOf9
 v9:=Tryz.zeroValue9
 t46:=Tryz.underlying171
 a46:=Tryz.isAgg171
 z46:=Tryz.sizeOf171
 v46:=Tryz.zeroValue171
 t51:=Tryz.underlying184
 a51:=Tryz.isAgg184
 z51:=Tryz.sizeOf184
 v51:=Tryz.zeroValue184
 t146:=Tryz.underlying319
 a146:=Tryz.isAgg319
 z146:=Tryz.sizeOf319
 v146:=Tryz.zeroValue319
 g1:=by kernel_rfl }
open Go.RowKit Go.Lib in
theorem Tryz.strings_Contains_one (s:ByteArray) (c:UInt8) (w:World) :
  Calls Tryz.prog 67 #[.string s,.string ⟨#[c]⟩] w fun e w'=>e = .returned (.bool (decide (0≤Lib.indexByte s.data.toList c)))∧w'=w:=Any.strings_Contains_one Tryz.lays144 s c w
def Tryz.laysSlM6_f123_ren:Go.Shelf.Ren:=⟨fun | 6=>123 | 8=>125 | 9=>163 | 19=>172 | 20=>173 | 21=>215 | 22=>216 | 23=>217 | 24=>218 | 25=>219 | 26=>220 | 27=>194 | 28=>221 | 29=>222 | 36=>251 | 31=>224 | 32=>225 | 37=>252 | 38=>253 | 39=>235 | 41=>268 | n=>n,fun | 27=>150 | 29=>9 | 3=>3 | 32=>171 | 26=>150 | 0=>0 | 44=>184 | 46=>79 | 4=>4 | 36=>271 | 35=>270 | 41=>232 | 5=>5 | 9=>9 | 53=>313 | 57=>317 | 63=>342 | 64=>343 | n=>n,fun | n=>n⟩
theorem Tryz.laysSlM6_f123:Go.Proofs.SlLaysM.n6 Tryz.prog Tryz.laysSlM6_f123_ren:={
 mixed:=by kernel_rfl
 f6:=⟨Tryz.f123.name,by decide,Tryz.func123.trans (congrArg some (by kernel_rfl))⟩
 f8:=Tryz.func125.trans (congrArg some (by kernel_rfl))
 f9:=⟨Tryz.f163.name,by decide,Tryz.func163.trans (congrArg some (by kernel_rfl))⟩
 f19:=Tryz.func172.trans (congrArg some (by kernel_rfl))
 f20:=Tryz.func173.trans (congrArg some (by kernel_rfl))
 f21:=⟨Tryz.f215.name,by decide,Tryz.func215.trans (congrArg some (by kernel_rfl))⟩
 f22:=⟨Tryz.f216.name,by decide,Tryz.func216.trans (congrArg some (by kernel_rfl))⟩
 f23:=⟨Tryz.f217.name,by decide,Tryz.func217.trans (congrArg some (by kernel_rfl))⟩
 f24:=⟨Tryz.f218.name,by decide,Tryz.func218.trans (congrArg some (by kernel_rfl))⟩
 f25:=⟨Tryz.f219.name,by decide,Tryz.func219.trans (congrArg some (by kernel_rfl))⟩
 f26:=⟨Tryz.f220.name,by decide,Tryz.func220.trans (congrArg some (by kernel_rfl))⟩
 f27:=⟨Tryz.f194.name,by decide,Tryz.func194.trans (congrArg some (by kernel_rfl))⟩
 f28:=⟨Tryz.f221.name,by decide,Tryz.func221.trans (congrArg some (by kernel_rfl))⟩
 f29:=⟨Tryz.f222.name,by decide,Tryz.func222.trans (congrArg some (by kernel_rfl))⟩
 f31:=Tryz.func224.trans (congrArg some (by kernel_rfl))
 f32:=Tryz.func225.trans (congrArg some (by kernel_rfl))
 f36:=⟨Tryz.f251.name,by decide,Tryz.func251.trans (congrArg some (by kernel_rfl))⟩
 f37:=⟨Tryz.f252.name,by decide,Tryz.func252.trans (congrArg some (by kernel_rfl))⟩
 f38:=⟨Tryz.f253.name,by decide,Tryz.func253.trans (congrArg some (by kernel_rfl))⟩
 f39:=⟨Tryz.f235.name,by decide,Tryz.func235.trans (congrArg some (by kernel_rfl))⟩
 f41:=⟨Tryz.f268.name,by decide,Tryz.func268.trans (congrArg some (by kernel_rfl))⟩
 t0:=Tryz.underlying0
 a0:=Tryz.isAgg0
 z0:=Tryz.sizeOf0
 v0:=Tryz.zeroValue0
 t3:=Tryz.underlying3
 a3:=Tryz.isAgg3
 z3:=Tryz.sizeOf3
 v3:=Tryz.zeroValue3
 t4:=Tryz.underlying4
 a4:=Tryz.isAgg4
 z4:=Tryz.sizeOf4
 v4:=Tryz.zeroValue4
 t5:=Tryz.underlying5
 a5:=Tryz.isAgg5
 z5:=Tryz.sizeOf5
 v5:=Tryz.zeroValue5
 t9:=Tryz.underlying9
 a9:=Tryz.isAgg9
 z9:=Tryz.sizeOf9
 v9:=Tryz.zeroValue9
 t26:=Tryz.underlying150
 a26:=Tryz.isAgg150
 z26:=Tryz.sizeOf150
 v26:=Tryz.zeroValue150
 t27:=Tryz.underlying150
 a27:=Tryz.isAgg150
 z27:=Tryz.sizeOf150
 v27:=Tryz.zeroValue150
 t29:=Tryz.underlying9
 a29:=Tryz.isAgg9
 z29:=Tryz.sizeOf9
 v29:=Tryz.zeroValue9
 t32:=Tryz.underlying171
 a32:=Tryz.isAgg171
 z32:=Tryz.sizeOf171
 v32:=Tryz.zeroValue171
 t35:=Tryz.underlying270
 a35:=Tryz.isAgg270
 z35:=Tryz.sizeOf270
 v35:=Tryz.zeroValue270
 t36:=Tryz.underlying271
 a36:=Tryz.isAgg271
 z36:=Tryz.sizeOf271
 v36:=Tryz.zeroValue271
 t41:=Tryz.underlying232
 a41:=Tryz.isAgg232
 z41:=Tryz.sizeOf232
 v41:=Tryz.zeroValue232
 t44:=Tryz.underlying184
 a44:=Tryz.isAgg184
 z44:=Tryz.sizeOf184
 v44:=Tryz.zeroValue184
 t46:=Tryz.underlying79
 a46:=Tryz.isAgg79
 z46:=Tryz.sizeOf79
 v46:=Tryz.zeroValue79
 t53:=Tryz.underlying313
 a53:=Tryz.isAgg313
 z53:=Tryz.sizeOf313
 v53:=Tryz.zeroValue313
 t57:=Tryz.underlying317
 a57:=Tryz.isAgg317
 z57:=Tryz.sizeOf317
 v57:=Tryz.zeroValue317
 t63:=Tryz.underlying342
 a63:=Tryz.isAgg342
 z63:=Tryz.sizeOf342
 v63:=Tryz.zeroValue342
 t64:=Tryz.underlying343
 a64:=Tryz.isAgg343
 z64:=Tryz.sizeOf343
 v64:=Tryz.zeroValue343 }
open Go.Sort Go.RowKit in
theorem Tryz.slices_Sort_string (blk off cap:Nat) (ss:List (List UInt8)) (w:World) (hH:Holds encStr w blk off ss.toArray) (hblk:blk < w.heap.size) (hsz:ss.length < 4611686018427387904) :
  Calls Tryz.prog 123 #[.slice (some ⟨blk,off,none⟩) ss.length cap] w fun e w'=>
   e = .returned (.tuple #[])∧∃n os,w'=grow (putRow encStr (Sort.ahead w n) blk off (ss.mergeSort fun x y=>decide (x≤y)).toArray) os:=AnyM.slices_Sort_string Tryz.laysSlM6_f123 blk off cap ss w hH hblk hsz
open Go.RowKit Go.Sort in
theorem Tryz.slices_Sort_string_none (p:Option Addr) (cap:Nat) (w:World) :
  Calls Tryz.prog 123 #[.slice p 0 cap] w fun e w'=>e = .returned (.tuple #[])∧w'=w:=AnyM.slices_Sort_string_none Tryz.laysSlM6_f123 p cap w
def Tryz.laysBS_ren:Go.Shelf.Ren:=⟨fun | 26=>141 | 33=>194 | 34=>195 | 38=>235 | n=>n,fun | 24=>150 | 9=>9 | 3=>3 | 4=>4 | 40=>171 | 0=>0 | n=>n,fun | n=>n⟩
theorem Tryz.laysBS:Go.Proofs.Lays2.n26 Tryz.prog Tryz.laysBS_ren:={
 mixed:=by kernel_rfl
 f26:=Tryz.func141.trans (congrArg some (by kernel_rfl))
 f33:=Tryz.func194.trans (congrArg some (by kernel_rfl))
 f34:=Tryz.func195.trans (congrArg some (by kernel_rfl))
 f38:=Tryz.func235.trans (congrArg some (by kernel_rfl))
 t0:=Tryz.underlying0
 a0:=Tryz.isAgg0
 z0:=Tryz.sizeOf0
 v0:=Tryz.zeroValue0
 t3:=Tryz.underlying3
 a3:=Tryz.isAgg3
 z3:=Tryz.sizeOf3
 v3:=Tryz.zeroValue3
 t4:=Tryz.underlying4
 a4:=Tryz.isAgg4
 z4:=Tryz.sizeOf4
 v4:=Tryz.zeroValue4
 t9:=Tryz.underlying9
 a9:=Tryz.isAgg9
 z9:=Tryz.sizeOf9
 v9:=Tryz.zeroValue9
 t24:=Tryz.underlying150
 a24:=Tryz.isAgg150
 z24:=Tryz.sizeOf150
 v24:=Tryz.zeroValue150
 t40:=Tryz.underlying171
 a40:=Tryz.isAgg171
 z40:=Tryz.sizeOf171
 v40:=Tryz.zeroValue171 }
def Tryz.laysSFL_ren:Go.Shelf.Ren:=⟨fun | 6=>193 | 15=>125 | 14=>234 | 28=>172 | 29=>173 | 20=>256 | 21=>257 | 22=>258 | 23=>259 | 24=>260 | 25=>261 | 26=>262 | 27=>263 | 46=>269 | 47=>224 | 48=>225 | 49=>270 | 50=>271 | 57=>274 | n=>n,fun | 22=>80 | 24=>106 | 25=>224 | 3=>3 | 39=>171 | 0=>0 | 53=>184 | 55=>79 | 4=>4 | 46=>271 | 45=>270 | 50=>232 | 5=>5 | 9=>9 | 66=>313 | 70=>317 | 76=>342 | 77=>343 | n=>n,fun | n=>n⟩
theorem Tryz.laysSFL:Go.Proofs.SlLaysF0.n6 Tryz.prog Tryz.laysSFL_ren:={
 mixed:=by kernel_rfl
 f6:=⟨Tryz.f193.name,by decide,Tryz.func193.trans (congrArg some (by kernel_rfl))⟩
 f14:=⟨Tryz.f234.name,by decide,Tryz.func234.trans (congrArg some (by kernel_rfl))⟩
 f15:=Tryz.func125.trans (congrArg some (by kernel_rfl))
 f20:=⟨Tryz.f256.name,by decide,Tryz.func256.trans (congrArg some (by kernel_rfl))⟩
 f21:=⟨Tryz.f257.name,by decide,Tryz.func257.trans (congrArg some (by kernel_rfl))⟩
 f22:=⟨Tryz.f258.name,by decide,Tryz.func258.trans (congrArg some (by kernel_rfl))⟩
 f23:=⟨Tryz.f259.name,by decide,Tryz.func259.trans (congrArg some (by kernel_rfl))⟩
 f24:=⟨Tryz.f260.name,by decide,Tryz.func260.trans (congrArg some (by kernel_rfl))⟩
 f25:=⟨Tryz.f261.name,by decide,Tryz.func261.trans (congrArg some (by kernel_rfl))⟩
 f26:=⟨Tryz.f262.name,by decide,Tryz.func262.trans (congrArg some (by kernel_rfl))⟩
 f27:=⟨Tryz.f263.name,by decide,Tryz.func263.trans (congrArg some (by kernel_rfl))⟩
 f28:=Tryz.func172.trans (congrArg some (by kernel_rfl))
 f29:=Tryz.func173.trans (congrArg some (by kernel_rfl))
 f46:=⟨Tryz.f269.name,by decide,Tryz.func269.trans (congrArg some (by kernel_rfl))⟩
 f47:=Tryz.func224.trans (congrArg some (by kernel_rfl))
 f48:=Tryz.func225.trans (congrArg some (by kernel_rfl))
 f49:=⟨Tryz.f270.name,by decide,Tryz.func270.trans (congrArg some (by kernel_rfl))⟩
 f50:=⟨Tryz.f271.name,by decide,Tryz.func271.trans (congrArg some (by kernel_rfl))⟩
 f57:=⟨Tryz.f274.name,by decide,Tryz.func274.trans (congrArg some (by kernel_rfl))⟩
 t0:=Tryz.underlying0
 a0:=Tryz.isAgg0
 z0:=Tryz.sizeOf0
 v0:=Tryz.zeroValue0
 t3:=Tryz.underlying3
 a3:=Tryz.isAgg3
 z3:=Tryz.sizeOf3
 v3:=Tryz.zeroValue3
 t4:=Tryz.underlying4
 a4:=Tryz.isAgg4
 z4:=Tryz.sizeOf4
 v4:=Tryz.zeroValue4
 t5:=Tryz.underlying5
 a5:=Tryz.isAgg5
 z5:=Tryz.sizeOf5
 v5:=Tryz.zeroValue5
 t9:=Tryz.underlying9
 a9:=Tryz.isAgg9
 z9:=Tryz.sizeOf9
 v9:=Tryz.zeroValue9
 t22:=Tryz.underlying80
 a22:=Tryz.isAgg80
 z22:=Tryz.sizeOf80
 v22:=Tryz.zeroValue80
 t25:=Tryz.underlying224
 a25:=Tryz.isAgg224
 z25:=Tryz.sizeOf224
 v25:=Tryz.zeroValue224
 t39:=Tryz.underlying171
 a39:=Tryz.isAgg171
 z39:=Tryz.sizeOf171
 v39:=Tryz.zeroValue171
 t45:=Tryz.underlying270
 a45:=Tryz.isAgg270
 z45:=Tryz.sizeOf270
 v45:=Tryz.zeroValue270
 t46:=Tryz.underlying271
 a46:=Tryz.isAgg271
 z46:=Tryz.sizeOf271
 v46:=Tryz.zeroValue271
 t50:=Tryz.underlying232
 a50:=Tryz.isAgg232
 z50:=Tryz.sizeOf232
 v50:=Tryz.zeroValue232
 t53:=Tryz.underlying184
 a53:=Tryz.isAgg184
 z53:=Tryz.sizeOf184
 v53:=Tryz.zeroValue184
 t55:=Tryz.underlying79
 a55:=Tryz.isAgg79
 z55:=Tryz.sizeOf79
 v55:=Tryz.zeroValue79
 t66:=Tryz.underlying313
 a66:=Tryz.isAgg313
 z66:=Tryz.sizeOf313
 v66:=Tryz.zeroValue313
 t70:=Tryz.underlying317
 a70:=Tryz.isAgg317
 z70:=Tryz.sizeOf317
 v70:=Tryz.zeroValue317
 t76:=Tryz.underlying342
 a76:=Tryz.isAgg342
 z76:=Tryz.sizeOf342
 v76:=Tryz.zeroValue342
 t77:=Tryz.underlying343
 a77:=Tryz.isAgg343
 z77:=Tryz.sizeOf343
 v77:=Tryz.zeroValue343 }
def Tryz.laysCFL_ren:Go.Shelf.Ren:=⟨fun | 8=>190 | 6=>233 | n=>n,fun | 22=>80 | 23=>106 | 25=>288 | 4=>4 | 3=>3 | 0=>0 | n=>n,fun | n=>n⟩
theorem Tryz.laysCFL:Go.Proofs.SlLaysH0.n8 Tryz.prog Tryz.laysCFL_ren:={
 mixed:=by kernel_rfl
 f6:=⟨Tryz.f233.name,by decide,Tryz.func233.trans (congrArg some (by kernel_rfl))⟩
 f8:=⟨Tryz.f190.name,by decide,Tryz.func190.trans (congrArg some (by kernel_rfl))⟩
 t0:=Tryz.underlying0
 a0:=Tryz.isAgg0
 z0:=Tryz.sizeOf0
 v0:=Tryz.zeroValue0
 t3:=Tryz.underlying3
 a3:=Tryz.isAgg3
 z3:=Tryz.sizeOf3
 v3:=Tryz.zeroValue3
 t4:=Tryz.underlying4
 a4:=Tryz.isAgg4
 z4:=Tryz.sizeOf4
 v4:=Tryz.zeroValue4
 t22:=Tryz.underlying80
 a22:=Tryz.isAgg80
 z22:=Tryz.sizeOf80
 v22:=Tryz.zeroValue80
 t25:=Tryz.underlying288
 a25:=Tryz.isAgg288
 z25:=Tryz.sizeOf288
 v25:=Tryz.zeroValue288 }
def Tryz.cloneD_ren:Go.Shelf.Ren:=⟨fun | 5=>107 | 7=>158 | n=>n,fun | 23=>124 | 25=>9 | 3=>3 | 4=>4 | 20=>20 | n=>n,fun | n=>n⟩
theorem Tryz.cloneD:Go.Proofs.SlLaysW.n5 Tryz.prog Tryz.cloneD_ren:={
 mixed:=by kernel_rfl
 f5:=⟨Tryz.f107.name,by decide,Tryz.func107.trans (congrArg some (by kernel_rfl))⟩
 f7:=Tryz.func158.trans (congrArg some (by kernel_rfl))
 t4:=Tryz.underlying4
 a4:=Tryz.isAgg4
 z4:=Tryz.sizeOf4
 v4:=Tryz.zeroValue4
 t20:=Tryz.underlying20
 a20:=Tryz.isAgg20
 z20:=Tryz.sizeOf20
 v20:=Tryz.zeroValue20
 t23:=Tryz.underlying124
 a23:=Tryz.isAgg124
 z23:=Tryz.sizeOf124
 v23:=Tryz.zeroValue124 }
def Tryz.cloneF_ren:Go.Shelf.Ren:=⟨fun | 5=>108 | 7=>158 | n=>n,fun | 23=>125 | 25=>9 | 3=>132 | 4=>4 | 20=>20 | n=>n,fun | n=>n⟩
theorem Tryz.cloneF:Go.Proofs.SlLaysW.n5 Tryz.prog Tryz.cloneF_ren:={
 mixed:=by kernel_rfl
 f5:=⟨Tryz.f108.name,by decide,Tryz.func108.trans (congrArg some (by kernel_rfl))⟩
 f7:=Tryz.func158.trans (congrArg some (by kernel_rfl))
 t4:=Tryz.underlying4
 a4:=Tryz.isAgg4
 z4:=Tryz.sizeOf4
 v4:=Tryz.zeroValue4
 t20:=Tryz.underlying20
 a20:=Tryz.isAgg20
 z20:=Tryz.sizeOf20
 v20:=Tryz.zeroValue20
 t23:=Tryz.underlying125
 a23:=Tryz.isAgg125
 z23:=Tryz.sizeOf125
 v23:=Tryz.zeroValue125 }
def Tryz.laysSFE_ren:Go.Shelf.Ren:=⟨fun | 6=>69 | 15=>125 | 14=>124 | 28=>172 | 29=>173 | 20=>164 | 21=>165 | 22=>166 | 23=>167 | 24=>168 | 25=>169 | 26=>170 | 27=>171 | 46=>223 | 47=>224 | 48=>225 | 49=>226 | 50=>227 | 57=>254 | n=>n,fun | 22=>53 | 24=>148 | 25=>154 | 3=>3 | 39=>171 | 0=>0 | 53=>184 | 55=>79 | 4=>4 | 46=>271 | 45=>270 | 50=>232 | 5=>5 | 9=>9 | 66=>313 | 70=>317 | 76=>342 | 77=>343 | n=>n,fun | n=>n⟩
theorem Tryz.laysSFE:Go.Proofs.SlLaysF0.n6 Tryz.prog Tryz.laysSFE_ren:={
 mixed:=by kernel_rfl
 f6:=⟨Tryz.f69.name,by decide,Tryz.func69.trans (congrArg some (by kernel_rfl))⟩
 f14:=⟨Tryz.f124.name,by decide,Tryz.func124.trans (congrArg some (by kernel_rfl))⟩
 f15:=Tryz.func125.trans (congrArg some (by kernel_rfl))
 f20:=⟨Tryz.f164.name,by decide,Tryz.func164.trans (congrArg some (by kernel_rfl))⟩
 f21:=⟨Tryz.f165.name,by decide,Tryz.func165.trans (congrArg some (by kernel_rfl))⟩
 f22:=⟨Tryz.f166.name,by decide,Tryz.func166.trans (congrArg some (by kernel_rfl))⟩
 f23:=⟨Tryz.f167.name,by decide,Tryz.func167.trans (congrArg some (by kernel_rfl))⟩
 f24:=⟨Tryz.f168.name,by decide,Tryz.func168.trans (congrArg some (by kernel_rfl))⟩
 f25:=⟨Tryz.f169.name,by decide,Tryz.func169.trans (congrArg some (by kernel_rfl))⟩
 f26:=⟨Tryz.f170.name,by decide,Tryz.func170.trans (congrArg some (by kernel_rfl))⟩
 f27:=⟨Tryz.f171.name,by decide,Tryz.func171.trans (congrArg some (by kernel_rfl))⟩
 f28:=Tryz.func172.trans (congrArg some (by kernel_rfl))
 f29:=Tryz.func173.trans (congrArg some (by kernel_rfl))
 f46:=⟨Tryz.f223.name,by decide,Tryz.func223.trans (congrArg some (by kernel_rfl))⟩
 f47:=Tryz.func224.trans (congrArg some (by kernel_rfl))
 f48:=Tryz.func225.trans (congrArg some (by kernel_rfl))
 f49:=⟨Tryz.f226.name,by decide,Tryz.func226.trans (congrArg some (by kernel_rfl))⟩
 f50:=⟨Tryz.f227.name,by decide,Tryz.func227.trans (congrArg some (by kernel_rfl))⟩
 f57:=⟨Tryz.f254.name,by decide,Tryz.func254.trans (congrArg some (by kernel_rfl))⟩
 t0:=Tryz.underlying0
 a0:=Tryz.isAgg0
 z0:=Tryz.sizeOf0
 v0:=Tryz.zeroValue0
 t3:=Tryz.underlying3
 a3:=Tryz.isAgg3
 z3:=Tryz.sizeOf3
 v3:=Tryz.zeroValue3
 t4:=Tryz.underlying4
 a4:=Tryz.isAgg4
 z4:=Tryz.sizeOf4
 v4:=Tryz.zeroValue4
 t5:=Tryz.underlying5
 a5:=Tryz.isAgg5
 z5:=Tryz.sizeOf5
 v5:=Tryz.zeroValue5
 t9:=Tryz.underlying9
 a9:=Tryz.isAgg9
 z9:=Tryz.sizeOf9
 v9:=Tryz.zeroValue9
 t22:=Tryz.underlying53
 a22:=Tryz.isAgg53
 z22:=Tryz.sizeOf53
 v22:=Tryz.zeroValue53
 t25:=Tryz.underlying154
 a25:=Tryz.isAgg154
 z25:=Tryz.sizeOf154
 v25:=Tryz.zeroValue154
 t39:=Tryz.underlying171
 a39:=Tryz.isAgg171
 z39:=Tryz.sizeOf171
 v39:=Tryz.zeroValue171
 t45:=Tryz.underlying270
 a45:=Tryz.isAgg270
 z45:=Tryz.sizeOf270
 v45:=Tryz.zeroValue270
 t46:=Tryz.underlying271
 a46:=Tryz.isAgg271
 z46:=Tryz.sizeOf271
 v46:=Tryz.zeroValue271
 t50:=Tryz.underlying232
 a50:=Tryz.isAgg232
 z50:=Tryz.sizeOf232
 v50:=Tryz.zeroValue232
 t53:=Tryz.underlying184
 a53:=Tryz.isAgg184
 z53:=Tryz.sizeOf184
 v53:=Tryz.zeroValue184
 t55:=Tryz.underlying79
 a55:=Tryz.isAgg79
 z55:=Tryz.sizeOf79
 v55:=Tryz.zeroValue79
 t66:=Tryz.underlying313
 a66:=Tryz.isAgg313
 z66:=Tryz.sizeOf313
 v66:=Tryz.zeroValue313
 t70:=Tryz.underlying317
 a70:=Tryz.isAgg317
 z70:=Tryz.sizeOf317
 v70:=Tryz.zeroValue317
 t76:=Tryz.underlying342
 a76:=Tryz.isAgg342
 z76:=Tryz.sizeOf342
 v76:=Tryz.zeroValue342
 t77:=Tryz.underlying343
 a77:=Tryz.isAgg343
 z77:=Tryz.sizeOf343
 v77:=Tryz.zeroValue343 }
def Tryz.laysSFS_ren:Go.Shelf.Ren:=⟨fun | 6=>145 | 15=>125 | 14=>197 | 28=>172 | 29=>173 | 20=>236 | 21=>237 | 22=>238 | 23=>239 | 24=>240 | 25=>241 | 26=>242 | 27=>243 | 46=>264 | 47=>224 | 48=>225 | 49=>265 | 50=>266 | 57=>272 | n=>n,fun | 22=>81 | 24=>109 | 25=>239 | 3=>3 | 39=>171 | 0=>0 | 53=>184 | 55=>79 | 4=>4 | 46=>271 | 45=>270 | 50=>232 | 5=>5 | 9=>9 | 66=>313 | 70=>317 | 76=>342 | 77=>343 | n=>n,fun | n=>n⟩
theorem Tryz.laysSFS:Go.Proofs.SlLaysF0.n6 Tryz.prog Tryz.laysSFS_ren:={
 mixed:=by kernel_rfl
 f6:=⟨Tryz.f145.name,by decide,Tryz.func145.trans (congrArg some (by kernel_rfl))⟩
 f14:=⟨Tryz.f197.name,by decide,Tryz.func197.trans (congrArg some (by kernel_rfl))⟩
 f15:=Tryz.func125.trans (congrArg some (by kernel_rfl))
 f20:=⟨Tryz.f236.name,by decide,Tryz.func236.trans (congrArg some (by kernel_rfl))⟩
 f21:=⟨Tryz.f237.name,by decide,Tryz.func237.trans (congrArg some (by kernel_rfl))⟩
 f22:=⟨Tryz.f238.name,by decide,Tryz.func238.trans (congrArg some (by kernel_rfl))⟩
 f23:=⟨Tryz.f239.name,by decide,Tryz.func239.trans (congrArg some (by kernel_rfl))⟩
 f24:=⟨Tryz.f240.name,by decide,Tryz.func240.trans (congrArg some (by kernel_rfl))⟩
 f25:=⟨Tryz.f241.name,by decide,Tryz.func241.trans (congrArg some (by kernel_rfl))⟩
 f26:=⟨Tryz.f242.name,by decide,Tryz.func242.trans (congrArg some (by kernel_rfl))⟩
 f27:=⟨Tryz.f243.name,by decide,Tryz.func243.trans (congrArg some (by kernel_rfl))⟩
 f28:=Tryz.func172.trans (congrArg some (by kernel_rfl))
 f29:=Tryz.func173.trans (congrArg some (by kernel_rfl))
 f46:=⟨Tryz.f264.name,by decide,Tryz.func264.trans (congrArg some (by kernel_rfl))⟩
 f47:=Tryz.func224.trans (congrArg some (by kernel_rfl))
 f48:=Tryz.func225.trans (congrArg some (by kernel_rfl))
 f49:=⟨Tryz.f265.name,by decide,Tryz.func265.trans (congrArg some (by kernel_rfl))⟩
 f50:=⟨Tryz.f266.name,by decide,Tryz.func266.trans (congrArg some (by kernel_rfl))⟩
 f57:=⟨Tryz.f272.name,by decide,Tryz.func272.trans (congrArg some (by kernel_rfl))⟩
 t0:=Tryz.underlying0
 a0:=Tryz.isAgg0
 z0:=Tryz.sizeOf0
 v0:=Tryz.zeroValue0
 t3:=Tryz.underlying3
 a3:=Tryz.isAgg3
 z3:=Tryz.sizeOf3
 v3:=Tryz.zeroValue3
 t4:=Tryz.underlying4
 a4:=Tryz.isAgg4
 z4:=Tryz.sizeOf4
 v4:=Tryz.zeroValue4
 t5:=Tryz.underlying5
 a5:=Tryz.isAgg5
 z5:=Tryz.sizeOf5
 v5:=Tryz.zeroValue5
 t9:=Tryz.underlying9
 a9:=Tryz.isAgg9
 z9:=Tryz.sizeOf9
 v9:=Tryz.zeroValue9
 t22:=Tryz.underlying81
 a22:=Tryz.isAgg81
 z22:=Tryz.sizeOf81
 v22:=Tryz.zeroValue81
 t25:=Tryz.underlying239
 a25:=Tryz.isAgg239
 z25:=Tryz.sizeOf239
 v25:=Tryz.zeroValue239
 t39:=Tryz.underlying171
 a39:=Tryz.isAgg171
 z39:=Tryz.sizeOf171
 v39:=Tryz.zeroValue171
 t45:=Tryz.underlying270
 a45:=Tryz.isAgg270
 z45:=Tryz.sizeOf270
 v45:=Tryz.zeroValue270
 t46:=Tryz.underlying271
 a46:=Tryz.isAgg271
 z46:=Tryz.sizeOf271
 v46:=Tryz.zeroValue271
 t50:=Tryz.underlying232
 a50:=Tryz.isAgg232
 z50:=Tryz.sizeOf232
 v50:=Tryz.zeroValue232
 t53:=Tryz.underlying184
 a53:=Tryz.isAgg184
 z53:=Tryz.sizeOf184
 v53:=Tryz.zeroValue184
 t55:=Tryz.underlying79
 a55:=Tryz.isAgg79
 z55:=Tryz.sizeOf79
 v55:=Tryz.zeroValue79
 t66:=Tryz.underlying313
 a66:=Tryz.isAgg313
 z66:=Tryz.sizeOf313
 v66:=Tryz.zeroValue313
 t70:=Tryz.underlying317
 a70:=Tryz.isAgg317
 z70:=Tryz.sizeOf317
 v70:=Tryz.zeroValue317
 t76:=Tryz.underlying342
 a76:=Tryz.isAgg342
 z76:=Tryz.sizeOf342
 v76:=Tryz.zeroValue342
 t77:=Tryz.underlying343
 a77:=Tryz.isAgg343
 z77:=Tryz.sizeOf343
 v77:=Tryz.zeroValue343 }
def Tryz.laysSFH_ren:Go.Shelf.Ren:=⟨fun | 6=>76 | 15=>125 | 14=>130 | 28=>172 | 29=>173 | 20=>179 | 21=>180 | 22=>181 | 23=>182 | 24=>183 | 25=>184 | 26=>185 | 27=>186 | 46=>230 | 47=>224 | 48=>225 | 49=>231 | 50=>232 | 57=>255 | n=>n,fun | 22=>69 | 24=>80 | 25=>163 | 3=>3 | 39=>171 | 0=>0 | 53=>184 | 55=>79 | 4=>4 | 46=>271 | 45=>270 | 50=>232 | 5=>5 | 9=>9 | 66=>313 | 70=>317 | 76=>342 | 77=>343 | n=>n,fun | n=>n⟩
theorem Tryz.laysSFH:Go.Proofs.SlLaysF0.n6 Tryz.prog Tryz.laysSFH_ren:={
 mixed:=by kernel_rfl
 f6:=⟨Tryz.f76.name,by decide,Tryz.func76.trans (congrArg some (by kernel_rfl))⟩
 f14:=⟨Tryz.f130.name,by decide,Tryz.func130.trans (congrArg some (by kernel_rfl))⟩
 f15:=Tryz.func125.trans (congrArg some (by kernel_rfl))
 f20:=⟨Tryz.f179.name,by decide,Tryz.func179.trans (congrArg some (by kernel_rfl))⟩
 f21:=⟨Tryz.f180.name,by decide,Tryz.func180.trans (congrArg some (by kernel_rfl))⟩
 f22:=⟨Tryz.f181.name,by decide,Tryz.func181.trans (congrArg some (by kernel_rfl))⟩
 f23:=⟨Tryz.f182.name,by decide,Tryz.func182.trans (congrArg some (by kernel_rfl))⟩
 f24:=⟨Tryz.f183.name,by decide,Tryz.func183.trans (congrArg some (by kernel_rfl))⟩
 f25:=⟨Tryz.f184.name,by decide,Tryz.func184.trans (congrArg some (by kernel_rfl))⟩
 f26:=⟨Tryz.f185.name,by decide,Tryz.func185.trans (congrArg some (by kernel_rfl))⟩
 f27:=⟨Tryz.f186.name,by decide,Tryz.func186.trans (congrArg some (by kernel_rfl))⟩
 f28:=Tryz.func172.trans (congrArg some (by kernel_rfl))
 f29:=Tryz.func173.trans (congrArg some (by kernel_rfl))
 f46:=⟨Tryz.f230.name,by decide,Tryz.func230.trans (congrArg some (by kernel_rfl))⟩
 f47:=Tryz.func224.trans (congrArg some (by kernel_rfl))
 f48:=Tryz.func225.trans (congrArg some (by kernel_rfl))
 f49:=⟨Tryz.f231.name,by decide,Tryz.func231.trans (congrArg some (by kernel_rfl))⟩
 f50:=⟨Tryz.f232.name,by decide,Tryz.func232.trans (congrArg some (by kernel_rfl))⟩
 f57:=⟨Tryz.f255.name,by decide,Tryz.func255.trans (congrArg some (by kernel_rfl))⟩
 t0:=Tryz.underlying0
 a0:=Tryz.isAgg0
 z0:=Tryz.sizeOf0
 v0:=Tryz.zeroValue0
 t3:=Tryz.underlying3
 a3:=Tryz.isAgg3
 z3:=Tryz.sizeOf3
 v3:=Tryz.zeroValue3
 t4:=Tryz.underlying4
 a4:=Tryz.isAgg4
 z4:=Tryz.sizeOf4
 v4:=Tryz.zeroValue4
 t5:=Tryz.underlying5
 a5:=Tryz.isAgg5
 z5:=Tryz.sizeOf5
 v5:=Tryz.zeroValue5
 t9:=Tryz.underlying9
 a9:=Tryz.isAgg9
 z9:=Tryz.sizeOf9
 v9:=Tryz.zeroValue9
 t22:=Tryz.underlying69
 a22:=Tryz.isAgg69
 z22:=Tryz.sizeOf69
 v22:=Tryz.zeroValue69
 t25:=Tryz.underlying163
 a25:=Tryz.isAgg163
 z25:=Tryz.sizeOf163
 v25:=Tryz.zeroValue163
 t39:=Tryz.underlying171
 a39:=Tryz.isAgg171
 z39:=Tryz.sizeOf171
 v39:=Tryz.zeroValue171
 t45:=Tryz.underlying270
 a45:=Tryz.isAgg270
 z45:=Tryz.sizeOf270
 v45:=Tryz.zeroValue270
 t46:=Tryz.underlying271
 a46:=Tryz.isAgg271
 z46:=Tryz.sizeOf271
 v46:=Tryz.zeroValue271
 t50:=Tryz.underlying232
 a50:=Tryz.isAgg232
 z50:=Tryz.sizeOf232
 v50:=Tryz.zeroValue232
 t53:=Tryz.underlying184
 a53:=Tryz.isAgg184
 z53:=Tryz.sizeOf184
 v53:=Tryz.zeroValue184
 t55:=Tryz.underlying79
 a55:=Tryz.isAgg79
 z55:=Tryz.sizeOf79
 v55:=Tryz.zeroValue79
 t66:=Tryz.underlying313
 a66:=Tryz.isAgg313
 z66:=Tryz.sizeOf313
 v66:=Tryz.zeroValue313
 t70:=Tryz.underlying317
 a70:=Tryz.isAgg317
 z70:=Tryz.sizeOf317
 v70:=Tryz.zeroValue317
 t76:=Tryz.underlying342
 a76:=Tryz.isAgg342
 z76:=Tryz.sizeOf342
 v76:=Tryz.zeroValue342
 t77:=Tryz.underlying343
 a77:=Tryz.isAgg343
 z77:=Tryz.sizeOf343
 v77:=Tryz.zeroValue343 }
def Tryz.laysCS_ren:Go.Shelf.Ren:=⟨fun | 41=>143 | n=>n,fun | 22=>81 | 23=>109 | 4=>4 | n=>n,fun | n=>n⟩
theorem Tryz.laysCS:Go.Proofs.SlLaysE0.n41 Tryz.prog Tryz.laysCS_ren:={
 mixed:=by kernel_rfl
 f41:=⟨Tryz.f143.name,by decide,Tryz.func143.trans (congrArg some (by kernel_rfl))⟩
 t4:=Tryz.underlying4
 a4:=Tryz.isAgg4
 z4:=Tryz.sizeOf4
 v4:=Tryz.zeroValue4
 t22:=Tryz.underlying81
 a22:=Tryz.isAgg81
 z22:=Tryz.sizeOf81
 v22:=Tryz.zeroValue81 }
def Tryz.laysCL_ren:Go.Shelf.Ren:=⟨fun | 41=>192 | n=>n,fun | 22=>80 | 23=>106 | 4=>4 | n=>n,fun | n=>n⟩
theorem Tryz.laysCL:Go.Proofs.SlLaysE0.n41 Tryz.prog Tryz.laysCL_ren:={
 mixed:=by kernel_rfl
 f41:=⟨Tryz.f192.name,by decide,Tryz.func192.trans (congrArg some (by kernel_rfl))⟩
 t4:=Tryz.underlying4
 a4:=Tryz.isAgg4
 z4:=Tryz.sizeOf4
 v4:=Tryz.zeroValue4
 t22:=Tryz.underlying80
 a22:=Tryz.isAgg80
 z22:=Tryz.sizeOf80
 v22:=Tryz.zeroValue80 }
end Go.Proofs
namespace Go.Proofs
open Go.Shelf
def Tryz.lays7_29_ren:Go.Shelf.Ren:=⟨fun | 29=>202 | n=>n,fun | 22=>79 | 3=>3 | 4=>4 | 25=>171 | 54=>332 | 0=>0 | 5=>5 | n=>n,fun | 1=>9 | n=>n⟩
theorem Tryz.lays7_29:Go.Proofs.Lays7.n29 Tryz.prog Tryz.lays7_29_ren:={
 mixed:=by kernel_rfl
 f29:=Tryz.func202.trans (congrArg some (by kernel_rfl))
 t0:=Tryz.underlying0
 a0:=Tryz.isAgg0
 z0:=Tryz.sizeOf0
 v0:=Tryz.zeroValue0
 i0:=by kernel_rfl
 t3:=Tryz.underlying3
 a3:=Tryz.isAgg3
 z3:=Tryz.sizeOf3
 v3:=Tryz.zeroValue3
 i3:=by kernel_rfl
 t4:=Tryz.underlying4
 a4:=Tryz.isAgg4
 z4:=Tryz.sizeOf4
 v4:=Tryz.zeroValue4
 i4:=by kernel_rfl
 t5:=Tryz.underlying5
 a5:=Tryz.isAgg5
 z5:=Tryz.sizeOf5
 v5:=Tryz.zeroValue5
 i5:=by kernel_rfl
 t22:=Tryz.underlying79
 a22:=Tryz.isAgg79
 z22:=Tryz.sizeOf79
 v22:=Tryz.zeroValue79
 i22:=by kernel_rfl
 t25:=Tryz.underlying171
 a25:=Tryz.isAgg171
 z25:=Tryz.sizeOf171
 v25:=Tryz.zeroValue171
 i25:=by kernel_rfl
 t54:=Tryz.underlying332
 a54:=Tryz.isAgg332
 z54:=Tryz.sizeOf332
 g1:=by kernel_rfl }
end Go.Proofs
namespace Go.Proofs.YtefpndiiedkmpaaGreatDoor
section
open Go.RowKit
open Lib renaming hid → Jh
open List renaming length_append → Jd
attribute [local go_sem ↓] Go.wp_at_zero Go.wp_at_succ
attribute [local go_sem] Later.cell
theorem Qcj:∀(f x:Nat),x < 2 ^ f→Lib.bitLenAux f x=if x=0 then 0 else x.log2+1
 | 0,x,h=>by
  have:x=0:=by omega
  simp[Lib.bitLenAux,this]
 | f+1,x,h=>by
  rw[Lib.bitLenAux]
  by_cases h0:x=0
  ·rw[if_pos h0,if_pos h0]
  ·rw[if_neg h0,if_neg h0,Qcj f (x / 2) (by rw[Nat.pow_succ] at h;omega)]
   by_cases h1:x / 2=0
   ·rw[if_pos h1];have:x=1:=by omega
    subst this;decide
   ·rw[if_neg h1];rw[Nat.log2_def x,if_pos (by omega)];omega
theorem Qnb {x:Nat} (h:x < 2 ^ 64):(64:Int) - (Lib.bitLen x:Int)=((clzN x:Nat):Int):=by
 unfold Lib.bitLen clzN;rw[Qcj 64 x h]
 by_cases h0:x=0
 ·rw[if_pos h0];rfl
 ·rw[if_neg h0];have:=(Nat.log2_lt h0).2 h;omega
theorem Qca:∀(f x:Nat),Lib.ctzFrom f x=ctzF x f
 | 0,_=>rfl
 | f+1,x=>by
  rw[Lib.ctzFrom,ctzF,Qca f (x / 2)]
  split
  ·rfl
  ·omega
theorem Qne {x:Nat} (h0:x≠0):Lib.ctz 64 x=ctzN x:=by
 unfold Lib.ctz ctzN;rw[if_neg h0,Qca]
def DbTab (w:World):Prop:=Go.Proofs.TabAt 9 Lib.deBruijn64tab w
theorem DbTab.below {w w':World} (h:DbTab w) (hb:Below w.heap.size w w'):DbTab w':=fun j hj=>later hb (h j hj)
theorem Qgh (x:Nat) (hx:x < 2 ^ 64) (w:World):Calls Tryz.prog 201 #[.int .u64 (x:Int)] w fun e w'=>e = .returned (.int .i64 ((clzN x:Nat):Int))∧w'=w:=by
 have:=Tryz.bits_LeadingZeros64 (x:Int) w (by omega) (by omega);rw[Int.toNat_natCast,Qnb hx] at this;exact this
theorem Qgn (x:Nat) (hx:x < 2 ^ 64) (h0:x≠0) (w:World) (hT:DbTab w):Calls Tryz.prog 202 #[.int .u64 (x:Int)] w fun e w'=>e = .returned (.int .i64 ((ctzN x:Nat):Int))∧w'=w:=by
 have:=Any7.bits_TrailingZeros64 Tryz.lays7_29 x hx w (fun _=>hT);rw[Qne h0] at this;exact this
theorem Qbr (B b:Nat) (c:Cst) (l:List Bool) (x:Nat) (w:World) (h:ChAt B b c l w) (hc:c.Ok) (hx:x < 2 ^ 64) (hlen:l.length≤1099511627000) (hB:B≤w.heap.size) (hT:DbTab w) :
  Calls Tryz.prog 150 #[.pointer (some ⟨b,0,none⟩),.int .u64 (x:Int)] w fun e w'=>e = .returned (.tuple #[])∧ChAt B b (Kbl c x).2 (l++(Kbl c x).1) w'∧Below B w w'∧KeepT b w w':=by
 have hcc:=h.cells;have c6:=hcc.2.2.2.2.1;have c7:=hcc.2.2.2.2.2.1;have c8:=hcc.2.2.2.2.2.2.1;have z6:=hcc.2.2.2.2.2.2.2 6;have z7:=hcc.2.2.2.2.2.2.2 7;have z8:=hcc.2.2.2.2.2.2.2 8;have H:=Jh h;have H0:=Jh h.1;clear h hcc
 by_cases h0:x=0
 ·subst h0;go_enter Tryz.func150,Tryz.ntmps150
  go_wp2_with fail
  refine (Kbv B b _ _ l 0 1 w H.out (by omega) (by omega) (by decide) hB).mono ?_;rintro _ w2 ⟨rfl,h5,h6,h6k⟩;go_wp2_with fail
  refine bodyPost_ret (results_none rfl _ _ _) rfl ?_;exact ⟨rfl,h5,h6,h6k⟩
 ·have e0:((x:Int) == 0)=false:=by simp[h0]
  have H0':=Jh h0;have HCL:=Jh (Qgh x hx w);have HCT:=Jh (Qgn x hx h0 w hT);have hcz:=Krz h0 hx;obtain ⟨cl,hcl⟩:∃cl,clzN x=cl:=⟨_,rfl⟩;obtain ⟨ct,hct⟩:∃ct,ctzN x=ct:=⟨_,rfl⟩;rw[hcl] at HCL hcz;rw[hct] at HCT hcz;have HCLE:=Jh hcl;have HCTE:=Jh hct;clear hcl hct;obtain ⟨ld,hld⟩:∃ld,min cl 31=ld:=⟨_,rfl⟩;have HLD:=Jh hld;have hl31:ld≤31:=by omega
  have hlc:ld+ct≤63:=by omega
  go_enter Tryz.func150,Tryz.ntmps150
  go_upto_region 2 with fail
  go_cut [4,5] (fun s4 s5 wx=>s4 = .int .i64 (ld:Int)∧s5 = .int .i64 (ct:Int)∧wx=w)
  case first=>
   clear hld;go_wp2_with fail
   refine HCL.out.mono ?_;rintro _ _ ⟨rfl,rfl⟩;go_wp2_with fail
   refine HCT.out.mono ?_;rintro _ _ ⟨rfl,rfl⟩;go_wp2_with fail
   go_meet
   exact ⟨vi (by have:=HLD.out;omega),rfl,rfl⟩
  case rest=>
   obtain ⟨rfl,rfl,rfl⟩:=hcut;go_upto_region 3 with fail
   have hce:=hc.2
   by_cases hwin:c.window=true∧c.lead≤ld∧c.tail≤ct
   ·have f1:=hwin.1;have f2:decide ((c.lead:Int)≤(ld:Int))=true:=by simp;omega
    have f3:decide ((c.tail:Int)≤(ct:Int))=true:=by simp;omega
    have g2:(c.lead:Int)≤(ld:Int):=by omega
    have g3:(c.tail:Int)≤(ct:Int):=by omega
    rw[f1] at c8;go_wp2_with fail
    refine (Kbv B b _ _ l 2 2 wc H.out (by omega) (by omega) (by decide) hB).mono ?_;rintro _ w2 ⟨rfl,h5,h6,h6k⟩;have HX:Hid (ChAt B b c (l++putN 2 2) w2):=Jh h5;have HXB:=Jh h6;have HXK:=Jh h6k;have hBx:B≤w2.heap.size:=Nat.le_trans hB h6.size;clear h5 h6 h6k c6 c7 c8 z6 z7 z8;go_upto_region 9 with fail
    have hcc:=HX.out.cells;have c6:=hcc.2.2.2.2.1;have c7:=hcc.2.2.2.2.2.1;have sl:=HX.out.lt;clear hcc;have ht63:c.tail≤63:=by omega
    have e1:wrap64 (64 - (c.lead:Int) - (c.tail:Int))=64 - (c.lead:Int) - (c.tail:Int):=by unfold wrap64;omega
    refine Kag 19 (by kernel_rfl) (by kernel_rfl) ?_;simp only[List.take_succ_cons,List.take_zero,List.drop_succ_cons,List.drop_zero]
    repeat (go_big_quiet_step (fail))
    refine wpQuiet_nil ?_;rintro w4 ⟨⟨_,hb4⟩,rfl⟩;have H4:=Jh (WrAt.far HX.out hb4);have HB4:=Jh (HXB.out.trans (hb4.mono hBx));have HK4:=Jh (HXK.out.trans (KeepT.of_below (b:=b) hb4));have hB4:B≤w4.heap.size:=Nat.le_trans hBx hb4.size;clear hb4 sl c6 c7;have hsh:(x:Int) / 2 ^ c.tail=((x >>> c.tail:Nat):Int):=by rw[Nat.shiftRight_eq_div_pow];simp
    have hwd:(64:Int) - (c.lead:Int) - (c.tail:Int)=((64 - c.lead - c.tail:Nat):Int):=by omega
    rw[hsh,hwd];have hsl:x >>> c.tail < 2 ^ 64:=Nat.lt_of_le_of_lt (Nat.shiftRight_le _ _) hx;obtain ⟨sx,hsx⟩:∃sx,x >>> c.tail=sx:=⟨_,rfl⟩;obtain ⟨wd,hwd2⟩:∃wd,64 - c.lead - c.tail=wd:=⟨_,rfl⟩;rw[hsx] at hsl;rw[hsx,hwd2];have HSX:=Jh hsx;have HWD:=Jh hwd2;clear hsh hwd hsx;go_wp2_with fail
    refine (Kbv B b _ _ (l++putN 2 2) sx wd w4 H4.out (by omega) (by rw[Jd];rw[Kaq];omega) hsl hB4).mono ?_;rintro _ w5 ⟨rfl,h5,h6,h6k⟩;go_wp2_with fail
    go_end0
    rw[List.append_assoc] at h5
    have hd:Kbl c x=(putN 2 2++putN sx wd,c):=by
     unfold Kbl;rw[if_neg H0'.out,HCLE.out,HCTE.out,HLD.out,if_pos hwin];rw[HSX.out,HWD.out]
    rw[hd];exact ⟨rfl,h5,HB4.out.trans h6,HK4.out.trans h6k⟩
   ·go_cut [36] (fun s36 wx=>s36 = .bool false∧wx=wc)
    case first=>
     cases hw:c.window with
     | false=>
      rw[hw] at c8;go_wp2_with fail
      go_meet
      exact ⟨rfl,rfl⟩
     | true=>
      rw[hw] at c8
      by_cases k2:c.lead≤ld
      ·have f2:decide ((c.lead:Int)≤(ld:Int))=true:=by simp;omega
       have k3:¬c.tail≤ct:=fun h=>hwin ⟨hw,k2,h⟩
       have f3:decide ((c.tail:Int)≤(ct:Int))=false:=by simp;omega
       have g2:(c.lead:Int)≤(ld:Int):=by omega
       go_wp2_with fail
       go_meet
       exact ⟨rfl,rfl⟩
      ·have f2:decide ((c.lead:Int)≤(ld:Int))=false:=by simp;omega
       go_wp2_with fail
       go_meet
       exact ⟨rfl,rfl⟩
    case rest=>
     obtain ⟨rfl,rfl⟩:=hcut
     have HX0:Hid (ChAt B b { c with lead:=ld,tail:=ct,window:=true } l (((wc.setCell ⟨b,6,none⟩ (.int .i64 (ld:Int))).setCell ⟨b,7,none⟩ (.int .i64 (ct:Int))).setCell ⟨b,8,none⟩ (.bool true))):=
      Jh (((H.out.rest_set 4 (.int .i64 (ld:Int))).rest_set 5 (.int .i64 (ct:Int))).rest_set 6 (.bool true))
     have HB0:Hid (Below B wc (((wc.setCell ⟨b,6,none⟩ (.int .i64 (ld:Int))).setCell ⟨b,7,none⟩ (.int .i64 (ct:Int))).setCell ⟨b,8,none⟩ (.bool true))):=
      Jh ((((Below.refl _ _).setCell (p:=⟨b,6,none⟩) H0.out _).setCell (p:=⟨b,7,none⟩) H0.out _).setCell (p:=⟨b,8,none⟩) H0.out _)
     have HK0:Hid (KeepT b wc (((wc.setCell ⟨b,6,none⟩ (.int .i64 (ld:Int))).setCell ⟨b,7,none⟩ (.int .i64 (ct:Int))).setCell ⟨b,8,none⟩ (.bool true))):=Jh ((KeepT.own.trans KeepT.own).trans KeepT.own);go_upto_region 6 with fail
     obtain ⟨w1,hw1⟩:∃w1,(((wc.setCell ⟨b,6,none⟩ (.int .i64 (ld:Int))).setCell ⟨b,7,none⟩ (.int .i64 (ct:Int))).setCell ⟨b,8,none⟩ (.bool true))=w1:=⟨_,rfl⟩;rw[hw1] at HX0 HB0 HK0;rw[hw1];have hB1:B≤w1.heap.size:=Nat.le_trans hB HB0.out.size;clear hw1 c6 c7 c8 z6 z7 z8;go_wp2_with fail
     refine (Kbv B b _ _ l 3 2 w1 HX0.out (by omega) (by omega) (by decide) hB1).mono ?_;rintro _ w2 ⟨rfl,h5,h6,h6k⟩;have HX2:=Jh h5;have HB2:=Jh (HB0.out.trans h6);have HK2:=Jh (HK0.out.trans h6k);have hB2:B≤w2.heap.size:=Nat.le_trans hB1 h6.size;clear h5 h6 h6k;have hldu:IntKind.u64.wrap (ld:Int)=(ld:Int):=Kez _ (by omega) (by omega);go_wp2_with fail
     refine (Kbv B b _ _ (l++putN 3 2) ld 5 w2 HX2.out (by omega) (by rw[Jd,Kaq];omega) (by omega) hB2).mono ?_;rintro _ w3 ⟨rfl,h5,h6,h6k⟩;have HX3:=Jh h5;have HB3:=Jh (HB2.out.trans h6);have HK3:=Jh (HK2.out.trans h6k);have hB3:B≤w3.heap.size:=Nat.le_trans hB2 h6.size;clear h5 h6 h6k;have e2:wrap64 (63 - (ld:Int) - (ct:Int))=((63 - ld - ct:Nat):Int):=by unfold wrap64;omega
     have e3:(63:Int) - (ld:Int) - (ct:Int)=((63 - ld - ct:Nat):Int):=by omega
     have e4:IntKind.u64.wrap ((63 - ld - ct:Nat):Int)=((63 - ld - ct:Nat):Int):=Kez _ (by omega) (by omega);obtain ⟨mm,hmm⟩:∃mm,63 - ld - ct=mm:=⟨_,rfl⟩;have HMM:=Jh hmm;rw[hmm] at e2 e3 e4;clear hmm;go_wp2_with fail
     refine (Kbv B b _ _ (l++putN 3 2++putN ld 5) mm 6 w3 HX3.out (by omega) (by rw[Jd,Jd,Kaq,Kaq];omega) (by have:=HMM.out;omega) hB3).mono ?_;rintro _ w4 ⟨rfl,h5,h6,h6k⟩
     have HX:Hid (ChAt B b { c with lead:=ld,tail:=ct,window:=true } (l++(putN 3 2++putN ld 5++putN (63 - ld - ct) 6)) w4):=Jh (by
      rw[←List.append_assoc,←List.append_assoc,HMM.out]
      exact h5)
     have HXB:=Jh (HB3.out.trans h6);have HXK:=Jh (HK3.out.trans h6k);have hBx:B≤w4.heap.size:=Nat.le_trans hB3 h6.size;clear h5 h6 h6k;go_upto_region 9 with fail
     have hcc:=HX.out.cells;have c6:=hcc.2.2.2.2.1;have c7:=hcc.2.2.2.2.2.1;have sl:=HX.out.lt;clear hcc;have ht63:ct≤63:=by omega
     have e1:wrap64 (64 - (ld:Int) - (ct:Int))=64 - (ld:Int) - (ct:Int):=by unfold wrap64;omega
     refine Kag 19 (by kernel_rfl) (by kernel_rfl) ?_;simp only[List.take_succ_cons,List.take_zero,List.drop_succ_cons,List.drop_zero]
     repeat (go_big_quiet_step (fail))
     refine wpQuiet_nil ?_;rintro w4 ⟨⟨_,hb4⟩,rfl⟩;have H4:=Jh (WrAt.far HX.out hb4);have HB4:=Jh (HXB.out.trans (hb4.mono hBx));have HK4:=Jh (HXK.out.trans (KeepT.of_below (b:=b) hb4));have hB4:B≤w4.heap.size:=Nat.le_trans hBx hb4.size;clear hb4 sl c6 c7;have hsh:(x:Int) / 2 ^ ct=((x >>> ct:Nat):Int):=by rw[Nat.shiftRight_eq_div_pow];simp
     have hwd:(64:Int) - (ld:Int) - (ct:Int)=((64 - ld - ct:Nat):Int):=by omega
     rw[hsh,hwd];have hsl:x >>> ct < 2 ^ 64:=Nat.lt_of_le_of_lt (Nat.shiftRight_le _ _) hx;obtain ⟨sx,hsx⟩:∃sx,x >>> ct=sx:=⟨_,rfl⟩;obtain ⟨wd,hwd2⟩:∃wd,64 - ld - ct=wd:=⟨_,rfl⟩;rw[hsx] at hsl;rw[hsx,hwd2];have HSX:=Jh hsx;have HWD:=Jh hwd2;clear hsh hwd hsx;go_wp2_with fail
     refine (Kbv B b _ _ (l++(putN 3 2++putN ld 5++putN (63 - ld - ct) 6)) sx wd w4 H4.out (by omega) (by rw[Jd];rw[Jd,Jd,Kaq,Kaq,Kaq];omega) hsl hB4).mono ?_;rintro _ w5 ⟨rfl,h5,h6,h6k⟩;go_wp2_with fail
     go_end0
     rw[List.append_assoc] at h5
     have hd:Kbl c x=((putN 3 2++putN ld 5++putN (63 - ld - ct) 6)++putN sx wd,{ c with lead:=ld,tail:=ct,window:=true }):=by
      unfold Kbl;rw[if_neg H0'.out,HCLE.out,HCTE.out,HLD.out,if_neg hwin];rw[HSX.out,HWD.out]
     rw[hd];exact ⟨rfl,h5,HB4.out.trans h6,HK4.out.trans h6k⟩
end
section
open Go.RowKit
open Lib renaming hid → Jh
attribute [local go_sem ↓] Go.wp_at_zero Go.wp_at_succ
attribute [local go_sem] Later.cell
def stepE (c:Cst) (s:Smp):Nat:=if s.t < 0∨1125899906842624 < s.t then 91 else if 0 < c.n∧s.t≤c.last.t then 90 else if c.n=120 then 92 else 0
theorem Kpq (ch:Int):(Kcm ch).length≤70:=by
 unfold Kcm
 repeat' split
 all_goals simp[Kaq]
def DbAt (B:Nat) (w:World):Prop:=DbTab w∧9 < B
theorem DbAt.below {B:Nat} {w w':World} (h:DbAt B w) (hb:Below B w w'):DbAt B w':=⟨fun j hj=>(hb.cell (p:=⟨9,j,none⟩) h.2).trans (h.1 j hj),h.2⟩
theorem Qkm (c:Cst) (x:Nat):(Kbl c x).2.n=c.n:=by
 unfold Kbl
 split
 ·rfl
 ·split <;> rfl
def Qoi (B b:Nat) (c:Cst) (l:List Bool) (s:Smp) (E:Nat) (w:World) (e:Ending) (w':World):Prop:=
 e = .returned (.int .i64 (E:Nat))∧(E=0→ChAt B b (Kbn c s).2 (l++(Kbn c s).1) w')∧Below B w w'∧KeepT b w w'
theorem Kwg (B b:Nat) (c:Cst) (l:List Bool) (s:Smp) (w:World) (h:ChAt B b c l w) (hg:c.Good) (hn:c.n≤120) (hv:s.v < 2 ^ 64) (hlen:l.length≤1000000) (hB:B≤w.heap.size) (hT:DbAt B w) :
  Calls Tryz.prog 90 #[.pointer (some ⟨b,0,none⟩),.int .i64 s.t,.int .u64 (s.v:Int)] w (Qoi B b c l s (stepE c s) w):=by
 obtain ⟨t,v⟩:=s;have hcc:=h.cells;have c2:=hcc.1;have c3:=hcc.2.1;have c4:=hcc.2.2.1;have z2:=hcc.2.2.2.2.2.2.2 2;have H:=Jh h;have H0:=Jh h.1;have HG:=Jh hg;clear h hcc;dsimp only at hv ⊢;obtain ⟨E,hE⟩:∃E,stepE c ⟨t,v⟩=E:=⟨_,rfl⟩;have HE:=Jh hE;rw[hE];unfold stepE at hE;dsimp only at hE
 by_cases b1:t < 0
 ·rw[if_pos (.inl b1)] at hE;have d1:decide (t < 0)=true:=by simp[b1]
  subst hE;go_enter Tryz.func90,Tryz.ntmps90
  go_wp2_with fail
  go_ret
  exact ⟨rfl,fun h=>absurd h (by decide),Below.refl _ _,KeepT.refl _ _⟩
 by_cases b2:1125899906842624 < t
 ·rw[if_pos (.inr b2)] at hE;have d1:decide (t < 0)=false:=by simp;omega
  have d2:decide (1125899906842624 < t)=true:=by simp;omega
  subst hE;go_enter Tryz.func90,Tryz.ntmps90
  go_wp2_with fail
  go_ret
  exact ⟨rfl,fun h=>absurd h (by decide),Below.refl _ _,KeepT.refl _ _⟩
 rw[if_neg (by omega)] at hE;have d1:decide (t < 0)=false:=by simp;omega
 have d2:decide (1125899906842624 < t)=false:=by simp;omega
 cases hn0:c.n with
 | zero=>
  rw[hn0] at hE c2;rw[if_neg (by omega),if_neg (by omega)] at hE;subst hE;have htu:IntKind.u64.wrap t=((u64N t:Nat):Int):=Khe t;go_enter Tryz.func90,Tryz.ntmps90
  go_wp2_with fail
  refine (Kbv B b _ _ l (u64N t) 64 w H.out (by omega) (by omega) (Kjz _) hB).mono ?_;rintro _ w2 ⟨rfl,h5,h6,h6k⟩;have HX2:=Jh h5;have HB2:=Jh h6;have HK2:=Jh h6k;have hB2:B≤w2.heap.size:=Nat.le_trans hB h6.size;clear h5 h6 h6k;go_wp2_with fail
  refine (Kbv B b _ _ (l++putN (u64N t) 64) v 64 w2 HX2.out (by omega) (by rw[List.length_append,Kaq];omega) hv hB2).mono ?_;rintro _ w3 ⟨rfl,h5,h6,h6k⟩;have HX3:Hid (ChAt B b c (l++putN (u64N t) 64++putN v 64) w3):=Jh h5;have HB3:=Jh (HB2.out.trans h6);have HK3:=Jh (HK2.out.trans h6k);clear h5 h6 h6k c2 c3 c4 z2;have hcc:=HX3.out.cells;have c2:=hcc.1;have c3:=hcc.2.1;have c4:=hcc.2.2.1;have z2:=hcc.2.2.2.2.2.2.2 2;have z3:=hcc.2.2.2.2.2.2.2 3;have z4:=hcc.2.2.2.2.2.2.2 4;rw[hn0] at c2;clear hcc;go_wp2_with fail
  go_ret
  refine ⟨rfl,fun _=>?_,((HB3.out.setCell (p:=⟨b,3,none⟩) H0.out _).setCell (p:=⟨b,4,none⟩) H0.out _).setCell (p:=⟨b,2,none⟩) H0.out _,((HK3.out.trans KeepT.own).trans KeepT.own).trans KeepT.own⟩;have:=((HX3.out.rest_set 1 (.int .i64 t)).rest_set 2 (.int .u64 (v:Int))).rest_set 0 (.int .i64 1);unfold Kbn;rw[if_pos hn0];rw[List.append_assoc] at this;exact this
 | succ n=>
  rw[hn0] at hE c2 hn;have d3:decide ((0:Int) < (n:Int)+1)=true:=by rw[decide_eq_true_eq];omega
  by_cases b3:t≤c.last.t
  ·rw[if_pos ⟨by omega,b3⟩] at hE;have d4:decide (t≤c.last.t)=true:=by simp;omega
   subst hE;go_enter Tryz.func90,Tryz.ntmps90
   go_wp2_with fail
   go_ret
   exact ⟨rfl,fun h=>absurd h (by decide),Below.refl _ _,KeepT.refl _ _⟩
  rw[if_neg (by omega)] at hE;have d4:decide (t≤c.last.t)=false:=by simp;omega
  by_cases b4:n+1=120
  ·rw[if_pos b4] at hE;have d5:(((n:Int)+1) == 120)=true:=by simp;omega
   subst hE;go_enter Tryz.func90,Tryz.ntmps90
   go_wp2_with fail
   go_ret
   exact ⟨rfl,fun h=>absurd h (by decide),Below.refl _ _,KeepT.refl _ _⟩
  rw[if_neg b4] at hE;have d5:(((n:Int)+1) == 120)=false:=by simp;omega
  have d6:(((n:Int)+1) == 0)=false:=by simp;omega
  subst hE;have g1:=HG.out.t0;have g2:=HG.out.t1;have g3:=HG.out.v;have g4:=HG.out.s0;have g5:=HG.out.s1;have hst:wrap64 (t - c.last.t)=t - c.last.t:=by unfold wrap64;omega
  obtain ⟨st,hste⟩:∃st,t - c.last.t=st:=⟨_,rfl⟩;rw[hste] at hst;have HST:=Jh hste;have hxor:bits .xor .u64 (v:Int) (c.last.v:Int)=((v ^^^ c.last.v:Nat):Int):=bits_xor_u64_nat _ _ (by omega) (by omega);obtain ⟨xv,hxv⟩:∃xv,v ^^^ c.last.v=xv:=⟨_,rfl⟩;have hxl:xv < 2 ^ 64:=by rw[←hxv];exact Nat.xor_lt_two_pow hv g3
  rw[hxv] at hxor;have HXV:=Jh hxv;have hs1:-1125899906842624≤st:=by omega
  have hs2:st≤1125899906842624:=by omega
  clear hxv;go_enter Tryz.func90,Tryz.ntmps90
  go_wp2_with fail
  refine (Qfo B b c l st w H.out g4 g5 hs1 hs2 (by omega) hB).mono ?_;rintro _ w2 ⟨rfl,h5,h6,h6k⟩;obtain ⟨tb,htb⟩:∃tb,Kcm (st - c.step)=tb:=⟨_,rfl⟩;have htl:tb.length≤70:=by rw[←htb];exact Kpq _
  rw[htb] at h5;have HTB:=Jh htb;clear htb;have HX2:=Jh h5;have HB2:=Jh h6;have HK2:=Jh h6k;have hB2:B≤w2.heap.size:=Nat.le_trans hB h6.size;have HT2:=Jh (hT.below h6);clear h5 h6 h6k c2 c3 c4 z2;have hcc:=HX2.out.cells;have c4:w2.cell? ⟨b,4,none⟩=some (.int .u64 (c.last.v:Int)):=hcc.2.2.1;clear hcc;go_wp2_with fail
  refine (Qbr B b _ (l++tb) xv w2 HX2.out (HG.out.ok.step st) hxl (by rw[List.length_append];omega) hB2 HT2.out.1).mono ?_;rintro _ w3 ⟨rfl,h5,h6,h6k⟩;have HX3:=Jh h5;have HB3:=Jh (HB2.out.trans h6);have HK3:=Jh (HK2.out.trans h6k);clear h5 h6 h6k c4;have hcc:=HX3.out.cells;have hdn:(Kbl { c with step:=st } xv).2.n=n+1:=(Qkm _ _).trans hn0;have c2:=hcc.1;rw[hdn] at c2;have c3:=hcc.2.1;have c4:=hcc.2.2.1;have z2:=hcc.2.2.2.2.2.2.2 2;have z3:=hcc.2.2.2.2.2.2.2 3;have z4:=hcc.2.2.2.2.2.2.2 4;clear hcc;obtain ⟨D,hD⟩:∃D,Kbl { c with step:=st } xv=D:=⟨_,rfl⟩;rw[hD] at c3 c4 HX3 hdn;have HD:=Jh hD;clear hD;go_wp2_with fail
  go_ret
  refine ⟨rfl,fun _=>?_,((HB3.out.setCell (p:=⟨b,3,none⟩) H0.out _).setCell (p:=⟨b,4,none⟩) H0.out _).setCell (p:=⟨b,2,none⟩) H0.out _,((HK3.out.trans KeepT.own).trans KeepT.own).trans KeepT.own⟩;have:=((HX3.out.rest_set 1 (.int .i64 t)).rest_set 2 (.int .u64 (v:Int))).rest_set 0 (.int .i64 ((n:Int)+1+1));unfold Kbn;rw[if_neg (by omega)];dsimp only;rw[HST.out,HXV.out,HTB.out,HD.out,hn0];rw[List.append_assoc] at this;exact this
end
section
open Go.Shelf Go.RowKit
def bren:Go.Shelf.Ren:=⟨fun | 166=>29 | 167=>85 | 169=>39 | 240=>82 | 276=>139 | n=>n,fun | 0=>0 | 3=>3 | 4=>4 | 5=>5 | 9=>9 | 20=>20 | 37=>72 | 70=>71 | 72=>74 | 75=>40 | 76=>75 | 80=>77 | 127=>186 | 164=>228 | n=>n,fun n=>n⟩
theorem Qkd:Go.Proofs.Lays.n166 Tryz.prog bren:={
 mixed:=by kernel_rfl
 f166:=Tryz.func29.trans (congrArg some (by kernel_rfl))
 f240:=Tryz.func82.trans (congrArg some (by kernel_rfl))
 f276:=Tryz.func139.trans (congrArg some (by kernel_rfl))
 t0:=Tryz.underlying0
 a0:=Tryz.isAgg0
 z0:=Tryz.sizeOf0
 v0:=Tryz.zeroValue0
 t3:=Tryz.underlying3
 a3:=Tryz.isAgg3
 z3:=Tryz.sizeOf3
 v3:=Tryz.zeroValue3
 t4:=Tryz.underlying4
 a4:=Tryz.isAgg4
 z4:=Tryz.sizeOf4
 v4:=Tryz.zeroValue4
 t9:=Tryz.underlying9
 a9:=Tryz.isAgg9
 z9:=Tryz.sizeOf9
 v9:=Tryz.zeroValue9
 t20:=Tryz.underlying20
 a20:=Tryz.isAgg20
 z20:=Tryz.sizeOf20
 v20:=Tryz.zeroValue20
 t37:=Tryz.underlying72
 a37:=Tryz.isAgg72
 z37:=Tryz.sizeOf72
 v37:=Tryz.zeroValue72
 t70:=Tryz.underlying71
 a70:=Tryz.isAgg71
 z70:=Tryz.sizeOf71
 v70:=Tryz.zeroValue71
 t72:=Tryz.underlying74
 a72:=Tryz.isAgg74
 z72:=Tryz.sizeOf74
 v72:=Tryz.zeroValue74
 t75:=Tryz.underlying40
 a75:=Tryz.isAgg40
 z75:=Tryz.sizeOf40
 v75:=Tryz.zeroValue40
 t164:=Tryz.underlying228
 a164:=Tryz.isAgg228
 z164:=Tryz.sizeOf228
 v164:=Tryz.zeroValue228 }
theorem Qke:Go.Proofs.Lays.n167 Tryz.prog bren:={
 mixed:=by kernel_rfl
 f167:=Tryz.func85.trans (congrArg some (by kernel_rfl))
 f240:=Tryz.func82.trans (congrArg some (by kernel_rfl))
 f276:=Tryz.func139.trans (congrArg some (by kernel_rfl))
 t0:=Tryz.underlying0
 a0:=Tryz.isAgg0
 z0:=Tryz.sizeOf0
 v0:=Tryz.zeroValue0
 t4:=Tryz.underlying4
 a4:=Tryz.isAgg4
 z4:=Tryz.sizeOf4
 v4:=Tryz.zeroValue4
 t5:=Tryz.underlying5
 a5:=Tryz.isAgg5
 z5:=Tryz.sizeOf5
 v5:=Tryz.zeroValue5
 t9:=Tryz.underlying9
 a9:=Tryz.isAgg9
 z9:=Tryz.sizeOf9
 v9:=Tryz.zeroValue9
 t20:=Tryz.underlying20
 a20:=Tryz.isAgg20
 z20:=Tryz.sizeOf20
 v20:=Tryz.zeroValue20
 t37:=Tryz.underlying72
 a37:=Tryz.isAgg72
 z37:=Tryz.sizeOf72
 v37:=Tryz.zeroValue72
 t70:=Tryz.underlying71
 a70:=Tryz.isAgg71
 z70:=Tryz.sizeOf71
 v70:=Tryz.zeroValue71
 t72:=Tryz.underlying74
 a72:=Tryz.isAgg74
 z72:=Tryz.sizeOf74
 v72:=Tryz.zeroValue74
 t75:=Tryz.underlying40
 a75:=Tryz.isAgg40
 z75:=Tryz.sizeOf40
 v75:=Tryz.zeroValue40
 t164:=Tryz.underlying228
 a164:=Tryz.isAgg228
 z164:=Tryz.sizeOf228
 v164:=Tryz.zeroValue228 }
theorem Kop:Go.Proofs.Lays.n169 Tryz.prog bren:={
 mixed:=by kernel_rfl
 f169:=Tryz.func39.trans (congrArg some (by kernel_rfl))
 t0:=Tryz.underlying0
 a0:=Tryz.isAgg0
 z0:=Tryz.sizeOf0
 v0:=Tryz.zeroValue0
 t3:=Tryz.underlying3
 a3:=Tryz.isAgg3
 z3:=Tryz.sizeOf3
 v3:=Tryz.zeroValue3
 t9:=Tryz.underlying9
 a9:=Tryz.isAgg9
 z9:=Tryz.sizeOf9
 v9:=Tryz.zeroValue9
 t37:=Tryz.underlying72
 a37:=Tryz.isAgg72
 z37:=Tryz.sizeOf72
 v37:=Tryz.zeroValue72
 t70:=Tryz.underlying71
 a70:=Tryz.isAgg71
 z70:=Tryz.sizeOf71
 v70:=Tryz.zeroValue71
 t72:=Tryz.underlying74
 a72:=Tryz.isAgg74
 z72:=Tryz.sizeOf74
 v72:=Tryz.zeroValue74
 t127:=Tryz.underlying186
 a127:=Tryz.isAgg186
 z127:=Tryz.sizeOf186
 v127:=Tryz.zeroValue186 }
theorem Kwk:Go.Proofs.Lays.n240 Tryz.prog bren:={
 mixed:=by kernel_rfl
 f240:=Tryz.func82.trans (congrArg some (by kernel_rfl))
 f276:=Tryz.func139.trans (congrArg some (by kernel_rfl))
 t0:=Tryz.underlying0
 a0:=Tryz.isAgg0
 z0:=Tryz.sizeOf0
 v0:=Tryz.zeroValue0
 t4:=Tryz.underlying4
 a4:=Tryz.isAgg4
 z4:=Tryz.sizeOf4
 v4:=Tryz.zeroValue4
 t9:=Tryz.underlying9
 a9:=Tryz.isAgg9
 z9:=Tryz.sizeOf9
 v9:=Tryz.zeroValue9
 t20:=Tryz.underlying20
 a20:=Tryz.isAgg20
 z20:=Tryz.sizeOf20
 v20:=Tryz.zeroValue20
 t70:=Tryz.underlying71
 a70:=Tryz.isAgg71
 z70:=Tryz.sizeOf71
 v70:=Tryz.zeroValue71
 t72:=Tryz.underlying74
 a72:=Tryz.isAgg74
 z72:=Tryz.sizeOf74
 v72:=Tryz.zeroValue74
 t164:=Tryz.underlying228
 a164:=Tryz.isAgg228
 z164:=Tryz.sizeOf228
 v164:=Tryz.zeroValue228 }
theorem Kgr:Builder.Extra Tryz.prog bren:={
 sizeBuilder:=by kernel_rfl
 liesBuilder:=by kernel_rfl
 t5:=Tryz.underlying5
 a5:=Tryz.isAgg5
 z5:=Tryz.sizeOf5
 v5:=Tryz.zeroValue5
 infoByte:=by kernel_rfl
 cellsByte:=by kernel_rfl
 sizeByte:=by kernel_rfl
 neB5:=by decide }
def Bld (B b:Nat) (l:List UInt8) (w:World):Prop:=Lib.IsBuilderF 74 5 B b (Lib.byteCells l) w
def Kwd (b:Nat) (w w':World):Prop:=Lib.OthersKept 5 (some b) w w'
theorem Kwd.blk {b g:Nat} {t:TypeId} {cs:Array Value} {w w':World} (h:Kwd b w w') (hg:Blk w g t cs) (hne:g≠b) (ht:t≠5):Blk w' g t cs:=
 h g _ hg (fun e=>hne (by injection e)) (fun c fz e=>by injection e with _ e2 _;exact ht e2)
theorem Bld.new {B:Nat} (w:World) (hB:B≤w.heap.size):Bld B w.heap.size [] (w.alloc (.cells #[.pointer none,.slice none 0 0] 74)):=
 .inl ⟨hB,.slice none 0 0,heap_alloc_new w _,World.ownsRowF_nil _ _ _ _,by simp[Value.ownBlock]⟩
theorem Bld.lt {B b:Nat} {l:List UInt8} {w:World} (h:Bld B b l w):b < w.heap.size:=by
 rcases h with ⟨_,v,hb,_⟩ | ⟨_,v,hb,_⟩ <;> exact Blk.lt hb
theorem Bld.below {B b:Nat} {l:List UInt8} {w w':World} (h:Bld B b l w) (hb:Below w.heap.size w w'):Bld B b l w':=by
 have key:∀p,Lib.BuilderAtF 74 5 B b p (Lib.byteCells l) w→Lib.BuilderAtF 74 5 B b p (Lib.byteCells l) w':=by
  rintro p ⟨h1,v,h2,h3,h4⟩;refine ⟨h1,v,(hb.block b (Blk.lt h2)).trans h2,h3.kept (row:=none) ⟨hb.os,hb.tape,hb.output,hb.size,fun k hk _=>hb.block k hk⟩ (by cases v.ownBlock <;> simp),h4⟩
 rcases h with h | h
 ·exact .inl (key _ h)
 ·exact .inr (key _ h)
theorem Koj (B b:Nat) (l:List UInt8) (c:UInt8) (w:World) (h:Bld B b l w) (hlen:l.length+1≤140737488355328) (hBw:B≤w.heap.size) :
  Calls Tryz.prog 85 #[.pointer (some ⟨b,0,none⟩),.int .u8 c.toNat] w fun e w'=>e = .returned .nilIface∧Bld B b (l ++ [c]) w'∧Below B w w':=by
 refine (Any.Builder_WriteByte_k Qke Kgr B b (Lib.byteCells l) c.toNat w h (by simpa[Lib.byteCells] using hlen) hBw).mono ?_;rintro e w' ⟨he,hb,hw,_⟩;refine ⟨he,?_,hw⟩;have:Lib.byteCells (l ++ [c])=Lib.byteCells l ++ [.int .u8 c.toNat]:=by simp[Lib.byteCells]
 unfold Bld;rw[this];exact .inr hb
theorem Kdb (B b:Nat) (l:List UInt8) (s:ByteArray) (w:World) (h:Bld B b l w) (hlen:l.length+s.size≤140737488355328) (hBw:B≤w.heap.size) :
  Calls Tryz.prog 29 #[.pointer (some ⟨b,0,none⟩),.string s] w fun e w'=>e = .returned (.tuple #[.int .i64 s.size,.nilIface])∧Bld B b (l++s.data.toList) w'∧Below B w w'∧Kwd b w w':=by
 refine (Any.Builder_WriteString_k Qkd Kgr B b (Lib.byteCells l) s w h (by simpa[Lib.byteCells] using hlen) hBw).mono ?_;rintro e w' ⟨he,hb,hw,ho⟩;refine ⟨he,?_,hw,ho⟩;have:Lib.byteCells (l++s.data.toList)=Lib.byteCells l++Lib.strCells s:=by simp[Lib.byteCells,Lib.strCells]
 unfold Bld;rw[this];exact .inr hb
theorem Kfj (B b:Nat) (l:List UInt8) (w:World) (h:Bld B b l w) (hBw:B≤w.heap.size) :
  Calls Tryz.prog 39 #[.pointer (some ⟨b,0,none⟩)] w fun e w'=>e = .returned (.string ⟨l.toArray⟩)∧Below B w w':=
 (Any.Builder_String_any_k Kop Kgr B b l w h hBw).mono fun _ _ h=>⟨h.1,h.2.2.1⟩
end
section
open Go.RowKit
attribute [local go_sem ↓] Go.wp_at_zero Go.wp_at_succ
attribute [local go_sem] Later.cell
theorem or128 (g:Nat):bits .or .u8 ((g:Int) % 256) 128=((UInt8.ofNat (g % 128+128)).toNat:Int):=by
 have key:∀x:Fin 256,bits .or .u8 ((x.val:Nat):Int) 128=((x.val % 128+128:Nat):Int):=by decide +kernel
 have h:=key ⟨g % 256,Nat.mod_lt _ (by omega)⟩;simp only at h;rw[show ((g:Int) % 256)=((g % 256:Nat):Int) by omega,h];have:(UInt8.ofNat (g % 128+128)).toNat=g % 128+128:=by simp[UInt8.toNat_ofNat'];omega
 rw[this];omega
theorem Kzs (B b:Nat) (l:List UInt8) (n:Nat) (w:World) (h:Bld B b l w) (hn:n < 256) (hlen:l.length+1≤140737488355328) (hBw:B≤w.heap.size) :
  Calls Tryz.prog 85 #[.pointer (some ⟨b,0,none⟩),.int .u8 n] w fun e w'=>e = .returned .nilIface∧Bld B b (l ++ [UInt8.ofNat n]) w'∧Below B w w':=by
 have:=Koj B b l (UInt8.ofNat n) w h hlen hBw;rw[show (UInt8.ofNat n).toNat=n by simp[UInt8.toNat_ofNat'];omega] at this;exact this
theorem Qmo {l:List UInt8} {g v:Nat} (h:l++uintT g=uintT v) (hg:¬127 < g):l ++ [UInt8.ofNat g]=uintT v:=by
 rw[←h,Qjn (by omega)]
theorem Qjo {l:List UInt8} {g v:Nat} (h:l++uintT g=uintT v) (hl:g < 2 ^ 64) (hg:127 < g):(l ++ [UInt8.ofNat (g % 128+128)])++uintT (g / 128)=uintT v:=by
 rw[←h,Qfq hl hg];simp
set_option maxHeartbeats 400000 in
theorem Kcx (v:Nat) (hv:v < 2 ^ 64) (w:World) :
  Calls Tryz.prog 31 #[.int .u64 v] w fun e w'=>e = .returned (.string ⟨(uintT v).toArray⟩)∧Below w.heap.size w w':=by
 go_enter Tryz.func31,Tryz.ntmps31
 go_upto_block 0 with fail
 have hb0:Bld w.heap.size w.heap.size [] (w.alloc (.cells #[.pointer none,.slice none 0 0] 74)):=Bld.new w (Nat.le_refl _);have hw0:Below w.heap.size w (w.alloc (.cells #[.pointer none,.slice none 0 0] 74)):=(Below.refl _ _).alloc (Nat.le_refl _) _;obtain ⟨w0,hw⟩:∃w0,w.alloc (.cells #[.pointer none,.slice none 0 0] 74)=w0:=⟨_,rfl⟩;rw[hw] at hb0 hw0 ⊢;clear hw;obtain ⟨b,hb⟩:∃b,w.heap.size=b:=⟨_,rfl⟩;rw[hb] at hb0 hw0 ⊢;have HB:=Lib.hid hb;clear hb;go_wp2_with fail
 go_loopg [0] v (fun g s0 wr=>∃l,s0 = .int .u64 (g:Nat)∧g < 2 ^ 64∧l++uintT g=uintT v∧Bld b b l wr∧Below b w wr∧b≤wr.heap.size)
 case atStart=>exact ⟨[],rfl,hv,rfl,hb0,hw0,by have:=hb0.lt;omega⟩
 case round=>
  obtain ⟨l,rfl,hg,hl,hbr,hwr,hbs⟩:=hrel
  have hlen:l.length≤11:=by
   have:=congrArg List.length hl;have h2:=Kam v;rw[List.length_append] at this;omega
  have HL:=Lib.hid hl;clear hl
  by_cases h127:127 < gk
  ·go_wp2_with fail
   rw[or128];refine (Koj b b l _ _ hbr (by omega) hbs).mono ?_;rintro e w1 ⟨rfl,hb1,hw1⟩;go_wp2_with fail
   go_roundg (gk / 128)
   case measure=>omega
   case rel=>exact ⟨_,by go_num,by omega,Qjo HL.out hg h127,hb1,hwr.trans hw1,Nat.le_trans hbs hw1.size⟩
  ·go_wp2_with fail
   refine (Kzs b b l gk _ hbr (by omega) (by omega) hbs).mono ?_;rintro e w1 ⟨rfl,hb1,hw1⟩;rw[Qmo HL.out h127] at hb1;go_wp2_with fail
   refine (Kfj b b _ _ hb1 (Nat.le_trans hbs hw1.size)).mono ?_;rintro e w2 ⟨rfl,hw2⟩;go_wp2_with fail
   go_ret
   refine ⟨rfl,?_⟩;rw[HB.out];exact (hwr.trans hw1).trans hw2
theorem Kaj (s:ByteArray):s.data.toList.length=s.size:=rfl
theorem Kze {a b:ByteArray} (h:a.data.toList=b.data.toList):a=b:=by
 cases a;cases b
 exact congrArg ByteArray.mk (Array.toList_inj.1 h)
set_option maxHeartbeats 400000 in
theorem Khu (s:ByteArray) (hs:s.size≤140737488351232) (w:World) :
  Calls Tryz.prog 37 #[.string s] w fun e w'=>e = .returned (.string ⟨(textT s.data.toList).toArray⟩)∧Below w.heap.size w w':=by
 have hu:=Kcx s.size (by omega) w;have hl:=Kam s.size;obtain ⟨U,hU⟩:∃U:ByteArray,(⟨(uintT s.size).toArray⟩:ByteArray)=U:=⟨_,rfl⟩;have hUz:U.size≤11:=by rw[←hU];simp only[ByteArray.size,List.size_toArray];exact hl.2
 rw[hU] at hu;have HU:=Lib.hid hu;have HUU:=Lib.hid hU;clear hu hU hl;go_enter Tryz.func37,Tryz.ntmps37
 go_wp2_with fail
 refine HU.out.mono ?_;rintro e w1 ⟨rfl,hb1⟩;go_wp2_with fail
 go_ret
 refine ⟨congrArg (fun s=>Ending.returned (Value.string s)) (Kze ?_),hb1⟩;rw[←HUU.out];simp[textT]
def Kol (base:Nat) (w:World) (v:Value) (l:List UInt8):Prop:=w.ownsRow base 5 1 v l.length (Lib.byteCells l)
theorem Qip {base e sz n:Nat} {w0 wr w1:World} {v:Value} {xs:List Value} {o:Obj} (hwr:Below base w0 wr) (hbs:base≤wr.heap.size) (hown:wr.ownsRow base e sz v n xs) (hg:(wr.alloc o).grownBy w1 v.ownBlock):Below base w0 w1:=
 hwr.trans ⟨hg.os,hg.tape,hg.output,by have:=hg.size;simp at this;omega,fun k hk=>(hg.block k (by simp;omega) (fun e=>by have:=(hown.lt k e.symm).1;omega)).trans (Below.heap_alloc _ _ _ (by omega))⟩
theorem Kol.text {base:Nat} {w:World} {v:Value} {l:List UInt8} (h:Kol base w v l) (h0:l≠[]):∃a cap,v = .slice (some a) l.length cap∧(convert 72 9 (.slice (some a) l.length cap)).run Tryz.prog w = .ok (.string ⟨l.toArray⟩) w:=by
 rcases h.2 with ⟨_,hn⟩ | ⟨g,cap,cur,rfl,hb,hh,hnc,_,hsize,htk⟩
 ·exact absurd (List.eq_nil_of_length_eq_zero hn) h0
 ·refine ⟨⟨g,0,none⟩,cap,rfl,run_convert_bytes_back w _ _ 5 _ cap l Tryz.underlying72 Tryz.underlying5 Tryz.underlying9 (fun j hj=>?_)⟩;rw[Addr.add_lit,Nat.zero_add,cell_of_row w g j cur 5 (0,0) hh];have e:(Lib.byteCells l)[j]? = some (.int .u8 (l[j].toNat:Int)):=by simp[Lib.byteCells,hj]
  rw[←htk,List.getElem?_take] at e
  split at e
  ·simpa using e
  ·cases e
end
section
abbrev Txt:=List UInt8
def Asc (t:List Txt):Prop:=t.Pairwise (· < ·)
def IsTab (l t:List Txt):Prop:=Asc t∧∀x,x∈t↔x∈l
theorem Knc {a b:Txt} (h:¬a < b) (h':¬b < a):a=b:=List.le_antisymm (List.not_lt.1 h') (List.not_lt.1 h)
theorem Qjm {a b c:Txt} (h:a≤b) (h':b < c):a < c:=by
 by_cases e:a < c
 ·exact e
 ·have:=List.not_lt.1 e;exact absurd h' (List.not_lt.2 (List.le_trans this h))
theorem Kjc {a b:Txt} (h:a≤b) (h':b≠a):a < b:=by
 by_cases e:a < b
 ·exact e
 ·exact absurd (List.le_antisymm (List.not_lt.1 e) h) h'
theorem Krv:∀{t t':List Txt},Asc t→Asc t'→(∀x,x∈t↔x∈t')→t=t'
 | [],[],_,_,_=>rfl
 | [],b :: s',_,_,h=>by have:=(h b).2 (by simp);simp at this
 | a :: s,[],_,_,h=>by have:=(h a).1 (by simp);simp at this
 | a :: s,b :: s',h1,h2,h=>by
  have ha:=List.pairwise_cons.1 h1;have hb:=List.pairwise_cons.1 h2
  have hab:a=b:=by
   apply Knc
   ·intro hlt;rcases List.mem_cons.1 ((h a).1 (by simp)) with e | e
    ·exact List.lt_irrefl a (by rw[e] at hlt ⊢;exact hlt)
    ·exact List.lt_asymm hlt (hb.1 a e)
   ·intro hlt;rcases List.mem_cons.1 ((h b).2 (by simp)) with e | e
    ·exact List.lt_irrefl b (by rw[e] at hlt ⊢;exact hlt)
    ·exact List.lt_asymm hlt (ha.1 b e)
  subst hab;rw[Krv ha.2 hb.2 fun x=>?_];constructor
  ·intro hx;rcases List.mem_cons.1 ((h x).1 (by simp[hx])) with e | e
   ·subst e;exact absurd (ha.1 x hx) (List.lt_irrefl x)
   ·exact e
  ·intro hx;rcases List.mem_cons.1 ((h x).2 (by simp[hx])) with e | e
   ·subst e;exact absurd (hb.1 x hx) (List.lt_irrefl x)
   ·exact e
theorem IsTab.one {l t t':List Txt} (h:IsTab l t) (h':IsTab l t'):t=t':=Krv h.1 h'.1 fun x=>(h.2 x).trans (h'.2 x).symm
theorem Klu (d:Array Txt) (hs:∀j,j+1 < d.size→d[j]!≤d[j+1]!):∀m,m≤d.size→
  Asc (Lib.compactUpTo d m)∧(∀x,x∈Lib.compactUpTo d m↔∃j,j < m∧d[j]! = x)∧(0 < m→∀x∈Lib.compactUpTo d m,x≤d[m - 1]!)
 | 0,_=>⟨List.Pairwise.nil,fun x=>by simp[Lib.compactUpTo],fun h=>by omega⟩
 | m+1,hm=>by
  obtain ⟨h1,h2,h3⟩:=Klu d hs m (by omega);rw[Lib.compactUpTo_succ]
  by_cases hk:m=0∨d[m]!≠d[m - 1]!
  ·have hkk:Lib.keeps d m=true:=by
    rcases hk with rfl | h
    ·simp[Lib.keeps]
    ·exact Lib.keeps_pos h
   rw[hkk,if_pos rfl]
   have hlt:∀x∈Lib.compactUpTo d m,x < d[m]!:=by
    intro x hx;rcases Nat.eq_zero_or_pos m with rfl | hp
    ·simp[Lib.compactUpTo] at hx
    ·have h4:=h3 hp x hx;have h5:=hs (m - 1) (by omega);rw[show m - 1+1=m by omega] at h5;exact Qjm h4 (Kjc h5 (by rcases hk with h | h;omega;exact h))
   refine ⟨?_,fun x=>?_,fun _ x hx=>?_⟩
   ·rw[Asc,List.pairwise_append];exact ⟨h1,List.pairwise_singleton _ _,fun a ha b hb=>by rw[List.mem_singleton.1 hb];exact hlt a ha⟩
   ·rw[List.mem_append,h2,List.mem_singleton];constructor
    ·rintro (⟨j,hj,e⟩ | e)
     ·exact ⟨j,by omega,e⟩
     ·exact ⟨m,by omega,e.symm⟩
    ·rintro ⟨j,hj,e⟩
     by_cases hjm:j=m
     ·subst hjm;exact .inr e.symm
     ·exact .inl ⟨j,by omega,e⟩
   ·rw[Nat.add_sub_cancel];rcases List.mem_append.1 hx with h | h
    ·exact List.le_of_lt (hlt x h)
    ·rw[List.mem_singleton.1 h];exact List.le_refl _
  ·have hm0:m≠0:=fun h=>hk (.inl h)
   have he:d[m]! = d[m - 1]!:=by
    apply Classical.byContradiction;intro h;exact hk (.inr h)
   rw[Lib.keeps_neg (by omega) he];simp only[Bool.false_eq_true,if_false,List.append_nil];refine ⟨h1,fun x=>?_,fun _ x hx=>?_⟩
   ·rw[h2];constructor
    ·rintro ⟨j,hj,e⟩;exact ⟨j,by omega,e⟩
    ·rintro ⟨j,hj,e⟩
     by_cases hjm:j=m
     ·subst hjm;exact ⟨j - 1,by omega,by rw[←he];exact e⟩
     ·exact ⟨j,by omega,e⟩
   ·rw[Nat.add_sub_cancel,he];exact h3 (by omega) x hx
theorem Qml (l:List Txt):IsTab l (Lib.compact (l.mergeSort fun x y=>decide (x≤y))):=by
 obtain ⟨z,hz⟩:∃z,l.mergeSort (fun x y=>decide (x≤y))=z:=⟨_,rfl⟩
 have hsorted:z.Pairwise (fun a b=>a≤b):=by
  have:=List.pairwise_mergeSort (le:=fun x y:Txt=>decide (x≤y)) (by intro a b c;simp;exact List.le_trans) (by intro a b;simp;exact List.le_total a b) l;rw[hz] at this;simpa using this
 have hmem:∀x,x∈z↔x∈l:=by intro x;rw[←hz];exact List.mem_mergeSort
 rw[hz];have hget:∀j,j < z.length→z.toArray[j]! = z[j]!:=fun j _=>by simp
 have hs:∀j,j+1 < z.toArray.size→z.toArray[j]!≤z.toArray[j+1]!:=by
  intro j hj;have hj':j+1 < z.length:=by simpa using hj
  rw[hget j (by omega),hget (j+1) hj',getElem!_pos z j (by omega),getElem!_pos z (j+1) hj'];exact List.pairwise_iff_getElem.1 hsorted j (j+1) (by omega) hj' (by omega)
 obtain ⟨h1,h2,_⟩:=Klu z.toArray hs z.length (by simp);refine ⟨h1,fun x=>?_⟩;rw[Lib.compact,h2,←hmem];constructor
 ·rintro ⟨j,hj,e⟩;rw[hget j hj,getElem!_pos z j hj] at e;rw[←e];exact List.getElem_mem hj
 ·intro hx;obtain ⟨j,hj,e⟩:=List.getElem_of_mem hx;exact ⟨j,hj,by rw[hget j hj,getElem!_pos z j hj];exact e⟩
def below (t:List Txt) (s:Txt):Nat:=t.countP fun x=>decide (x < s)
theorem Koo (t:List Txt) (s:Txt):below t s≤t.length:=List.countP_le_length
theorem Kfg:∀{t:List Txt} (_:Asc t) (s:Txt) (i:Nat) (h:i < t.length),(t[i] < s↔i < below t s)
 | a :: t,h,s,i,hi=>by
  have ha:=List.pairwise_cons.1 h;unfold below;rw[List.countP_cons]
  by_cases has:a < s
  ·simp only[has,decide_true,if_true]
   cases i with
   | zero=>simp[has]
   | succ i=>
    have ih:=Kfg ha.2 s i (by simpa using hi);unfold below at ih;simp only[List.getElem_cons_succ];rw[ih];omega
  ·have hz:t.countP (fun x=>decide (x < s))=0:=by
    rw[List.countP_eq_zero];intro x hx;have:=ha.1 x hx;simp only[decide_eq_true_eq];intro hxs;exact has (List.lt_trans this hxs)
   rw[hz];simp only[has,decide_false,Bool.false_eq_true,if_false,Nat.zero_add,Nat.not_lt_zero,iff_false]
   cases i with
   | zero=>exact has
   | succ i=>
    simp only[List.getElem_cons_succ];intro hxs;exact has (List.lt_trans (ha.1 _ (List.getElem_mem _)) hxs)
theorem Qkc {t:List Txt} (h:Asc t) {s:Txt} {i:Nat} (hi:t[i]? = some s):below t s=i:=by
 obtain ⟨hl,e⟩:=List.getElem?_eq_some_iff.1 hi;have h1:=Kfg h s i hl;rw[e] at h1;have h2:¬i < below t s:=fun hh=>List.lt_irrefl s (h1.2 hh)
 apply Nat.le_antisymm (by
  apply Classical.byContradiction
  intro hgt;exact h2 (by omega))
 apply Classical.byContradiction;intro hlt;have hb:below t s < i:=by omega
 have h3:=Kfg h s (below t s) (by omega)
 have h4:t[below t s] < s:=by
  have:=List.pairwise_iff_getElem.1 h (below t s) i (by omega) hl hb;rw[e] at this;exact this
 have:=h3.1 h4;omega
def numR (t:List Txt) (s:Txt):Nat×Nat:=if t[below t s]? = some s then (below t s,0) else (0,50)
theorem Qkg {t:List Txt} (h:Asc t) (s:Txt) (lt:Nat→Bool) (hlt:∀i (hi:i < t.length),lt i=decide (t[i] < s)) (hout:∀i,t.length≤i→lt i=false):Lib.bsGo lt t.length 0 t.length=below t s:=by
 apply Lib.bsGo_spec lt (below t s)
 ·intro i hi;have hl:i < t.length:=Nat.lt_of_lt_of_le hi (Koo t s);rw[hlt i hl,decide_eq_true_eq];exact (Kfg h s i hl).2 hi
 ·intro i hi
  by_cases hl:i < t.length
  ·rw[hlt i hl,decide_eq_false_iff_not];intro hh;have:=(Kfg h s i hl).1 hh;omega
  ·exact hout i (by omega)
 ·omega
 ·omega
 ·exact Koo t s
def Qor (b:UInt8):Bool:=decide (48≤b.toNat) && decide (b.toNat≤57)
def Qnk (b:UInt8):Bool:=(decide (97≤b.toNat) && decide (b.toNat≤122)) || (decide (65≤b.toNat) && decide (b.toNat≤90))
def okB (d:Bool) (b:UInt8):Bool:=(d && Qor b) || (b.toNat == 95) || Qnk b
def allOk:Bool→List UInt8→Bool
 | _,[]=>true
 | d,b :: l=>okB d b && allOk true l
def fitN (s:Txt):Bool:=allOk false s && decide (1≤s.length) && decide (s.length≤32)
def fitV (s:Txt):Bool:=decide (1≤s.length) && decide (s.length≤64)
structure Lb where
 n:Txt
 v:Txt
instance:Inhabited Lb:=⟨⟨[],[]⟩⟩
def names (l:List Lb):List Txt:=l.map Lb.n
def Kee:List Lb→List Lb→Nat
 | _,[]=>0
 | pre,x :: r=>if fitN x.n=false then 40 else if fitV x.v=false then 41 else if pre.any (fun y=>y.n == x.n) then 42 else Kee (pre ++ [x]) r
def Kbq (l:List Lb):Nat:=if l.length=0 then 43 else if 8 < l.length then 44 else Kee [] l
def Kdg (l:List Lb):Nat:=if Kbq l≠0 then Kbq l else if (names l).Pairwise (· < ·) then 0 else 42
def labT (x:Lb):List UInt8:=textT x.n++textT x.v
def encL (l:List Lb):List UInt8:=uintT l.length++l.flatMap labT
def Kgu (l:List Lb):List UInt8:=if Kdg l=0 then encL l else []
theorem Kkw:∀{pre l:List Lb},Kee pre l=0→(∀x∈l,fitN x.n=true∧fitV x.v=true)
 | _,[],_=>by simp
 | pre,x :: r,h=>by
  rw[Kee] at h
  split at h
  ·omega
  ·split at h
   ·omega
   ·split at h
    ·omega
    ·rename_i h1 h2 _
     have ih:=Kkw h;intro y hy;rcases List.mem_cons.1 hy with rfl | hy
     ·exact ⟨by simpa using h1,by simpa using h2⟩
     ·exact ih y hy
theorem Kll:∀{pre l:List Lb},Kee pre l=0→(names l).Nodup∧∀x∈l,∀y∈pre,y.n≠x.n
 | _,[],_=>by simp[names]
 | pre,x :: r,h=>by
  rw[Kee] at h
  split at h
  ·omega
  ·split at h
   ·omega
   ·split at h
    ·omega
    ·rename_i hany
     obtain ⟨h1,h2⟩:=Kll h
     have hx:∀y∈pre,y.n≠x.n:=by
      intro y hy e;apply hany;rw[List.any_eq_true];exact ⟨y,hy,by simp[e]⟩
     refine ⟨?_,?_⟩
     ·rw[names,List.map_cons,List.nodup_cons];refine ⟨?_,h1⟩;intro hm;obtain ⟨z,hz,e⟩:=List.mem_map.1 hm;exact h2 z hz x (by simp) e.symm
     ·intro z hz y hy;rcases List.mem_cons.1 hz with rfl | hz
      ·exact hx y hy
      ·exact h2 z hz y (by simp[hy])
theorem Kfb {l:List Lb} (h:Kbq l=0):l.length≠0∧l.length≤8∧(∀x∈l,fitN x.n=true∧fitV x.v=true)∧(names l).Nodup:=by
 unfold Kbq at h
 split at h
 ·omega
 ·split at h
  ·omega
  ·exact ⟨by omega,by omega,Kkw h,(Kll h).1⟩
theorem Qoq (a b:Txt):Lib.compareBytes a b < 0↔a < b:=by
 induction a generalizing b with
 | nil=>
  cases b with
  | nil=>simp[Lib.compareBytes]
  | cons y b=>simp[Lib.compareBytes]
 | cons x a ih=>
  cases b with
  | nil=>simp[Lib.compareBytes]
  | cons y b=>
   rw[Lib.compareBytes,List.cons_lt_cons_iff]
   by_cases h1:x < y
   ·simp[h1]
   ·by_cases h2:y < x
    ·simp only[h1,h2,if_true,if_false,false_or];constructor
     ·intro h;omega
     ·rintro ⟨rfl,_⟩;exact absurd h2 h1
    ·have e:x=y:=by
      apply UInt8.le_antisymm
      ·exact UInt8.not_lt.1 h2
      ·exact UInt8.not_lt.1 h1
     simp only[h1,h2,if_false,false_or];rw[ih];simp[e]
end
section
open Go.RowKit
open Lib renaming hid → Jh
attribute [local go_sem ↓] Go.wp_at_zero Go.wp_at_succ
attribute [local go_sem] Later.cell
def Kar (s:List UInt8) (k:Int):Nat×Nat×Nat:=
 if k < 0 then (0,0,20) else match readU (s.drop k.toNat) with | .error e=>(0,0,e) | .ok (v,n)=>(v,k.toNat+n,0)
def outOf (j:Nat) (r:Except Nat (Nat×Nat)):Nat×Nat×Nat:=match r with | .error e=>(0,0,e) | .ok (v,n)=>(v,j+n,0)
theorem Kfw (s:List UInt8) (j:Nat):Kar s (j:Int)=outOf j (readU (s.drop j)):=by
 unfold Kar outOf;rw[if_neg (by omega),Int.toNat_natCast]
theorem Ktf {s:ByteArray} {i:Nat} (h:i < s.size):s.data.toList.drop i=s[i] :: s.data.toList.drop (i+1):=by
 rw[List.drop_eq_getElem_cons (by simpa using h)];rfl
theorem Qol (b:Nat) (hb:b < 256):bits .and .u8 (b:Int) 127=((b % 128:Nat):Int):=by
 have key:∀x:Fin 256,bits .and .u8 ((x.val:Nat):Int) 127=((x.val % 128:Nat):Int):=by decide +kernel
 exact key ⟨b,hb⟩
theorem Kuk (x:Nat) (h:x < 2 ^ 64):IntKind.u64.wrap (x:Int)=(x:Int):=by
 rw[IntKind.wrap_u64];rw[show (2:Nat) ^ 64=18446744073709551616 by decide] at h;omega
theorem Qno (acc b i:Nat) (hb:b < 256) (hi:i≤9) (hacc:acc < 128 ^ i) (h9:i=9→b % 128≤1) :
  bits .or .u64 (acc:Int) (IntKind.u64.wrap (IntKind.u64.wrap (bits .and .u8 (b:Int) 127)*2 ^ (7*i)))=((acc+(b % 128)*128 ^ i:Nat):Int):=by
 have hp:(2:Nat) ^ (7*i)=128 ^ i:=by rw[Nat.pow_mul]
 have hx:(b % 128)*128 ^ i < 2 ^ 64:=by
  by_cases h:i=9
  ·subst h;have h1:=Nat.mul_le_mul_right (128 ^ 9) (h9 rfl);have h2:1*128 ^ 9 < 2 ^ 64:=by decide
   exact Nat.lt_of_le_of_lt h1 h2
  ·have h1:(b % 128)*128 ^ i≤127*128 ^ i:=Nat.mul_le_mul_right _ (by omega);have h2:127*128 ^ i≤127*128 ^ 8:=Nat.mul_le_mul_left _ (Nat.pow_le_pow_right (by omega) (by omega));have h3:127*128 ^ 8 < 2 ^ 64:=by decide
   exact Nat.lt_of_le_of_lt (Nat.le_trans h1 h2) h3
 have ha:acc < 2 ^ 64:=Nat.lt_of_lt_of_le hacc (Nat.le_trans (Nat.pow_le_pow_right (by omega) hi) (by decide));rw[Qol b hb,Kuk _ (Nat.lt_of_lt_of_le (Nat.mod_lt b (by omega:128 > 0)) (by decide))];have e1:(((b % 128:Nat):Int)*2 ^ (7*i))=(((b % 128)*128 ^ i:Nat):Int):=by rw[←hp];simp
 have e64:(2:Nat) ^ 64=18446744073709551616:=by decide
 rw[e1,Kuk _ hx,u64_or_nat _ _ (by rw[←e64];exact ha) (by rw[←e64];exact hx)];congr 1;have:=Nat.shiftLeft_add_eq_or_of_lt (i:=7*i) (b:=acc) (by rw[hp];exact hacc) (b % 128);rw[Nat.shiftLeft_eq,hp] at this;rw[Nat.or_comm,←this,Nat.add_comm]
theorem Kao (s:ByteArray) (k:Int) (v n e:Nat) (hr:Kar s.data.toList k=(v,n,e)) (hs:s.size≤140737488351232) (w:World) :
  Calls Tryz.prog 48 #[.string s,.int .i64 k] w fun en w'=>en = .returned (.tuple #[.int .u64 v,.int .i64 n,.int .i64 e])∧w=w':=by
 by_cases hk:k < 0
 ·have e0:decide (k < 0)=true:=by simpa using hk
  obtain ⟨rfl,rfl,rfl⟩:0=v∧0=n∧20=e:=by simpa[Kar,hk] using hr
  clear hr;go_enter Tryz.func48,Tryz.ntmps48
  go_wp2_with fail
  go_ret3
  exact ⟨rfl,rfl⟩
 ·obtain ⟨j,rfl⟩:=Int.eq_ofNat_of_zero_le (Int.not_lt.1 hk);rw[Kfw] at hr;have e0:decide ((j:Int) < 0)=false:=by simp
  by_cases hj:j < s.size
  ·have e1:decide ((s.size:Int)≤(j:Int))=false:=by simp;omega
   have e1':decide (s.size≤j)=false:=by simp;omega
   have HR:=Jh hr;clear hr hk;go_enter Tryz.func48,Tryz.ntmps48
   go_wp2_with fail
   go_loopg [7,18] 10 (fun g s7 s18 wr=>wr=w∧∃i acc:Nat,i+g=10∧s18 = .int .i64 (i:Int)∧s7 = .int .u64 (acc:Int)∧i≤9∧acc < 128 ^ i∧j+i≤s.size∧outOf j (readG i acc (s.data.toList.drop (j+i)))=(v,n,e))
   case atStart=>exact ⟨rfl,0,0,rfl,rfl,rfl,by omega,by simp,by omega,HR.out⟩
   case round=>
    obtain ⟨rfl,i,acc,hig,rfl,rfl,hi9,hacc,hjs,hout⟩:=hrel;obtain ⟨w,rfl⟩:∃x,x=wr:=⟨_,rfl⟩;have HIG:=Jh hig;clear hig;have HACC:=Jh hacc;clear hacc
    by_cases hend:j+i=s.size
    ·have e2:((j:Int)+(i:Int) == (s.size:Int))=true:=by rw[beq_iff_eq];omega
     rw[List.drop_of_length_le (by simp;omega)] at hout;obtain ⟨rfl,rfl,rfl⟩:0=v∧0=n∧20=e:=by simpa[outOf,readG] using hout
     clear hout hend;go_wp2_with fail
     go_ret3
     exact ⟨rfl,rfl⟩
    ·have e2:((j:Int)+(i:Int) == (s.size:Int))=false:=by rw[beq_eq_false_iff_ne];omega
     have hlt:j+i < s.size:=by omega
     rw[Ktf hlt] at hout;obtain ⟨b,hb⟩:∃b,s[j+i]=b:=⟨_,rfl⟩;have hbl:=UInt8.toNat_lt b;rw[hb,readG] at hout;have HO:=Jh hout;clear hout hend;go_upto_region 10 with fail
     clear e0 e1 e2 e1';go_cut [45] (fun s45 wz=>s45 = .bool (decide ((i=9∧1 < b.toNat)∨(0 < i∧b.toNat=0)))∧wz=w)
     case first=>
      clear hb;obtain ⟨x9,h9⟩:∃x,((i:Int) == 9)=x:=⟨_,rfl⟩;obtain ⟨x1,h1⟩:∃x,decide ((1:Int) < (b.toNat:Int))=x:=⟨_,rfl⟩;obtain ⟨x0,h0⟩:∃x,decide (0 < i)=x:=⟨_,rfl⟩;obtain ⟨xb,hb⟩:∃x,((b.toNat:Int) == 0)=x:=⟨_,rfl⟩
      have hfin:decide ((i=9∧1 < b.toNat)∨(0 < i∧b.toNat=0))=((x9 && x1) || (x0 && xb)):=by
       rw[←h9,←h1,←h0,←hb,Bool.eq_iff_iff];simp only[decide_eq_true_eq,Bool.or_eq_true,Bool.and_eq_true,beq_iff_eq];omega
      have HF:=Jh hfin;clear hfin;cases x9 <;> cases x1 <;> cases x0 <;> cases xb
      all_goals
       go_wp2_with fail
       go_meet
       exact ⟨vb (by rw[HF.out];rfl),rfl⟩
     case rest=>
      obtain ⟨rfl,rfl⟩:=hcut;have hout:=HO.out
      by_cases hbad:(i=9∧1 < b.toNat)∨(0 < i∧b.toNat=0)
      ·rw[if_pos hbad] at hout;obtain ⟨rfl,rfl,rfl⟩:0=v∧0=n∧21=e:=by simpa[outOf] using hout
       rw[decide_eq_true hbad];clear hout hbad HO;go_wp2_with fail
       go_ret3
       exact ⟨rfl,rfl⟩
      ·rw[if_neg hbad] at hout;rw[decide_eq_false hbad];have hval:=Qno acc b.toNat i hbl hi9 HACC.out (fun h9=>by omega);have HV:=Jh hval;have HO2:=Jh hout
       have hn9:¬b.toNat < 128→i < 9:=fun h=>by
        apply Classical.byContradiction;intro h';exact hbad (.inl ⟨by omega,by omega⟩)
       have HN9:=Jh hn9;clear hout hbad HO hval hn9;go_upto_region 13 with fail
       rw[HV.out];clear HV
       by_cases h128:b.toNat < 128
       ·have hout:=HO2.out;rw[if_pos h128,outOf] at hout;obtain ⟨hv,hn,he⟩:acc+b.toNat*128 ^ i=v∧j+(i+1)=n∧0=e:=by simpa using hout
        have hq2:acc+b.toNat % 128*128 ^ i=v:=by rw[←hv,Nat.mod_eq_of_lt h128]
        rw[hq2];have HN:=Jh hn;have HE:=Jh he;clear hout HO2 hv hq2 hb hn he;go_wp2_with fail
        go_ret3
        exact ⟨ret3 rfl (vi (by have:=HN.out;omega)) (vi (by rw[←HE.out];rfl)),rfl⟩
       ·have hout:=HO2.out;rw[if_neg h128] at hout;obtain ⟨q,hq⟩:∃q,acc+b.toNat % 128*128 ^ i=q:=⟨_,rfl⟩;have hq2:acc+(b.toNat - 128)*128 ^ i=q:=by rw[←hq];congr 2;omega
        rw[hq2] at hout
        have hql:q < 128 ^ (i+1):=by
         rw[←hq,Nat.pow_succ];have h1:(b.toNat % 128)*128 ^ i≤127*128 ^ i:=Nat.mul_le_mul_right _ (by omega);have:=HACC.out;omega
        have h9:=HN9.out h128;rw[hq];have HO3:=Jh hout;have HQL:=Jh hql;clear hout HO2 hq hq2 hb hql HACC;go_wp2_with fail
        go_roundg (gk - 1)
        case measure=>have:=HIG.out;omega
        case rel=>exact ⟨rfl,i+1,q,by have:=HIG.out;omega,by go_num,rfl,by omega,HQL.out,by omega,HO3.out⟩
  ·rw[List.drop_of_length_le (by simp;omega)] at hr;obtain ⟨rfl,rfl,rfl⟩:0=v∧0=n∧20=e:=by simpa[outOf,readU,readG] using hr
   clear hr hk;have e1:decide ((s.size:Int)≤(j:Int))=true:=by simp;omega
   go_enter Tryz.func48,Tryz.ntmps48
   go_wp2_with fail
   go_ret3
   exact ⟨rfl,rfl⟩
def Kbk (s:List UInt8) (k:Int):List UInt8×Nat×Nat:=
 if k < 0 then ([],0,20) else match readT (s.drop k.toNat) with | .error e=>([],0,e) | .ok (t,n)=>(t,k.toNat+n,0)
theorem Qgo (s:ByteArray) (a b:Nat):(s.extract a b).data.toList=(s.data.toList.drop a).take (b - a):=by
 simp only[ByteArray.data_extract,Array.toList_extract]
theorem Kgi (s:ByteArray) (k:Int) (t:List UInt8) (n e:Nat) (hr:Kbk s.data.toList k=(t,n,e)) (hs:s.size≤140737488351232) (w:World) :
  Calls Tryz.prog 98 #[.string s,.int .i64 k] w fun en w'=>en = .returned (.tuple #[.string ⟨t.toArray⟩,.int .i64 n,.int .i64 e])∧w=w':=by
 by_cases hk:k < 0
 ·obtain ⟨rfl,rfl,rfl⟩:[]=t∧0=n∧20=e:=by simpa[Kbk,hk] using hr
  have hra:Kar s.data.toList k=(0,0,20):=by simp[Kar,hk]
  have HRA:=Jh hra;clear hr hra;go_enter Tryz.func98,Tryz.ntmps98
  go_wp2_with fail
  refine (Kao s k 0 0 20 HRA.out hs w).mono ?_;rintro en w1 ⟨rfl,rfl⟩;go_wp2_with fail
  go_ret3
  exact ⟨rfl,rfl⟩
 ·obtain ⟨j,rfl⟩:=Int.eq_ofNat_of_zero_le (Int.not_lt.1 hk);have hra:=Kfw s.data.toList j;rw[Kbk,if_neg hk,Int.toNat_natCast,readT] at hr;obtain ⟨l,hl⟩:∃l,s.data.toList.drop j=l:=⟨_,rfl⟩;have hlen:l.length=s.size - j:=by rw[←hl,List.length_drop];rfl
  rw[hl] at hr hra
  cases hu:readU l with
  | error c=>
   rw[hu] at hr hra;have hra':Kar s.data.toList j=(0,0,c):=hra;obtain ⟨rfl,rfl,rfl⟩:[]=t∧0=n∧c=e:=by simpa using hr
   have hc0:c≠0:=Kfh hu;have e1:((c:Int) != 0)=true:=by simp;omega
   have HRA:=Jh hra';clear hr hra hra' hl hu hlen hk;go_enter Tryz.func98,Tryz.ntmps98
   go_wp2_with fail
   refine (Kao s j 0 0 c HRA.out hs w).mono ?_;rintro en w1 ⟨rfl,rfl⟩;go_wp2_with fail
   go_ret3
   exact ⟨rfl,rfl⟩
  | ok vk=>
   obtain ⟨v,m⟩:=vk;rw[hu] at hr hra;have hra':Kar s.data.toList j=(v,j+m,0):=hra;have hlt:=Key hu
   have hv64:v≤18446744073709551615:=by
    have:=hlt.1;rw[show (2:Nat) ^ 64=18446744073709551616 by decide] at this;omega
   have hm1:=hlt.2.1;have hm2:=hlt.2.2.1;have hmj:j+m≤s.size:=by omega
   simp only at hr;have HRA:=Jh hra'
   by_cases hshort:l.length - m < v
   ·rw[if_pos hshort] at hr;obtain ⟨rfl,rfl,rfl⟩:[]=t∧0=n∧20=e:=by simpa using hr
    have hsh:s.size - (j+m) < v:=by omega
    have e1:decide ((s.size:Int) - ((j:Int)+(m:Int)) < (v:Int))=true:=by simp;omega
    clear hr hra hra' hl hu hlen hk hshort hlt;go_enter Tryz.func98,Tryz.ntmps98
    go_wp2_with fail
    refine (Kao s j v (j+m) 0 HRA.out hs w).mono ?_;rintro en w1 ⟨rfl,rfl⟩;go_wp2_with fail
    go_ret3
    exact ⟨rfl,rfl⟩
   ·rw[if_neg hshort] at hr;obtain ⟨ht,hn,he⟩:(l.drop m).take v=t∧j+(m+v)=n∧0=e:=by simpa using hr
    have hsh:j+m+v≤s.size:=by omega
    have e1:decide ((s.size:Int) - ((j:Int)+(m:Int)) < (v:Int))=false:=by simp;omega
    have htt:(s.data.toList.drop (j+m)).take v=t:=by rw[←ht,←hl,List.drop_drop]
    have HT:=Jh htt;have HN:=Jh hn;have HE:=Jh he;have z1:(0:Int)≤(j:Int)+(m:Int):=by omega
    have z2:(j:Int)+(m:Int)≤(j:Int)+(m:Int)+(v:Int):=by omega
    have z3:(j:Int)+(m:Int)+(v:Int)≤(s.size:Int):=by omega
    clear hr hra hra' hl hu hlen hk hshort hlt ht hn he htt;go_enter Tryz.func98,Tryz.ntmps98
    go_wp2_with fail
    refine (Kao s j v (j+m) 0 HRA.out hs w).mono ?_;rintro en w1 ⟨rfl,rfl⟩;go_wp2_with fail
    go_ret3
    refine ⟨ret3 (congrArg Value.string (Kze (a:=s.extract (j+m) (j+m+v)) ?_)) (vi (by have:=HN.out;omega)) (vi (by rw[←HE.out];rfl)),rfl⟩;rw[Qgo,show j+m+v - (j+m)=v by omega,HT.out]
theorem Qnm (d:Bool) (b:UInt8):okB d b=((d && (decide ((48:Int)≤(b.toNat:Int)) && decide ((b.toNat:Int)≤57))) || !(((b.toNat:Int) != 95) && (decide (bits .or .u8 (b.toNat:Int) 32 < 97) || decide (122 < bits .or .u8 (b.toNat:Int) 32)))):=by
 have key:∀(x:Fin 256) (d:Bool),okB d (UInt8.ofNat x.val)=((d && (decide ((48:Int)≤(x.val:Int)) && decide ((x.val:Int)≤57))) || !(((x.val:Int) != 95) && (decide (bits .or .u8 (x.val:Int) 32 < 97) || decide (122 < bits .or .u8 (x.val:Int) 32)))):=by decide +kernel
 have h:=key ⟨b.toNat,UInt8.toNat_lt b⟩ d;simp only[UInt8.ofNat_toNat] at h;exact h
theorem Khn (s:ByteArray):s.toList.isEmpty=decide (s.size=0):=by
 rw[ByteArray.toList_eq,Bool.eq_iff_iff];simp only[List.isEmpty_iff,decide_eq_true_eq];rw[←Kaj];constructor
 ·intro h;rw[h];rfl
 ·intro h;exact List.eq_nil_of_length_eq_zero h
theorem Qdg {s:ByteArray} {i:Nat} (h:i < s.size) {R:Bool} (hr:allOk (decide (0 < i)) (s.data.toList.drop i)=R):(okB (decide (0 < i)) s[i] && allOk (decide (0 < i+1)) (s.data.toList.drop (i+1)))=R:=by
 rw[Ktf h,allOk] at hr;simpa using hr
theorem Kvb (s:ByteArray) (r:Bool) (hr:fitN s.data.toList=r) (hs:s.size≤140737488351232) (w:World) :
  Calls Tryz.prog 188 #[.string s] w fun e w'=>e = .returned (.bool r)∧w=w':=by
 obtain ⟨R,hR⟩:∃R,allOk false s.data.toList=R:=⟨_,rfl⟩;have hrr:(R && (decide (1≤s.size) && decide (s.size≤32)))=r:=by rw[←hr,←hR,fitN,Kaj,Bool.and_assoc]
 have HRR:=Jh hrr;have HR:=Jh hR;clear hr hrr hR;go_enter Tryz.func188,Tryz.ntmps188
 go_upto_block 0 with fail
 go_cut [] (fun wz=>wz=w∧R=true)
 case first=>
  go_wp2_with fail
  go_loopg [7] s.size (fun g s7 wr=>wr=w∧∃i:Nat,i+g=s.size∧s7 = .int .i64 (i:Int)∧allOk (decide (0 < i)) (s.data.toList.drop i)=R)
  case atStart=>exact ⟨rfl,0,by omega,rfl,by simpa using HR.out⟩
  case round=>
   obtain ⟨rfl,i,hig,rfl,hall⟩:=hrel;obtain ⟨w,rfl⟩:∃x,x=wr:=⟨_,rfl⟩;have HIG:=Jh hig;have HALL:=Jh hall;clear hig hall
   by_cases hi:i < s.size
   ·have hst:=Qdg hi HALL.out;obtain ⟨b,hb⟩:∃b,s[i]=b:=⟨_,rfl⟩;have hbl:=UInt8.toNat_lt b;rw[hb,Qnm] at hst;obtain ⟨x48,h48⟩:∃x,decide ((48:Int)≤(b.toNat:Int))=x:=⟨_,rfl⟩;obtain ⟨x57,h57⟩:∃x,decide ((b.toNat:Int)≤57)=x:=⟨_,rfl⟩;obtain ⟨x0,h0⟩:∃x,decide (0 < i)=x:=⟨_,rfl⟩;obtain ⟨x95,h95⟩:∃x,((b.toNat:Int) != 95)=x:=⟨_,rfl⟩;obtain ⟨xa,ha⟩:∃x,decide (bits .or .u8 (b.toNat:Int) 32 < 97)=x:=⟨_,rfl⟩;obtain ⟨xz,hz⟩:∃x,decide (122 < bits .or .u8 (b.toNat:Int) 32)=x:=⟨_,rfl⟩;rw[h48,h57,h0,h95,ha,hz] at hst;have HST:=Jh hst;have H0:=Jh h0;clear hst;have el:decide ((i:Int) < (s.size:Int))=true:=by simp;omega
    have el':decide (i < s.size)=true:=by simp;omega
    go_upto_region 5 with fail
    clear hb;go_cut [13] (fun s13 wz=>s13 = .bool (x48 && x57)∧wz=w)
    case first=>
     cases x48 <;> cases x57
     all_goals
      go_wp2_with fail
      go_meet
      exact ⟨rfl,rfl⟩
    case rest=>
     obtain ⟨rfl,rfl⟩:=hcut;obtain ⟨w,rfl⟩:∃x,x=wc:=⟨_,rfl⟩;obtain ⟨dg,hdg⟩:∃d,(x48 && x57)=d:=⟨_,rfl⟩;have hst:=HST.out;rw[hdg] at hst ⊢;have HST2:=Jh hst;clear HST hst hdg h48 h57;obtain ⟨skip,hskip⟩:∃d,(x0 && dg)=d:=⟨_,rfl⟩
     cases skip with
     | true=>
      obtain ⟨rfl,rfl⟩:x0=true∧dg=true:=by simpa using hskip
      clear hskip;go_wp2_with fail
      go_roundg (gk - 1)
      case measure=>have:=HIG.out;omega
      case rel=>exact ⟨rfl,i+1,by have:=HIG.out;omega,by go_num,by have:=HST2.out;simpa using this⟩
     | false=>
      have hst:=HST2.out;rw[hskip] at hst;have HST3:=Jh hst;clear hst HST2;cases dg <;> cases x0
      case true.true=>simp at hskip
      all_goals
       clear hskip;go_upto_region 7 with fail
       go_cut [33] (fun s33 wz=>s33 = .bool (x95 && (xa || xz))∧wz=w)
       case first=>
        cases x95 <;> cases xa <;> cases xz
        all_goals
         go_wp2_with fail
         go_meet
         exact ⟨rfl,rfl⟩
       case rest=>
        obtain ⟨rfl,rfl⟩:=hcut;obtain ⟨w,rfl⟩:∃x,x=wc:=⟨_,rfl⟩;obtain ⟨bad,hbad⟩:∃d,(x95 && (xa || xz))=d:=⟨_,rfl⟩;have hst:=HST3.out;rw[hbad] at hst ⊢;have HST4:=Jh hst;clear hst HST3 hbad
        cases bad with
        | true=>
         have hRf:R=false:=by have:=HST4.out;simpa using this.symm
         have hrf:r=false:=by rw[←HRR.out,hRf];rfl
         subst hrf;clear hRf;go_wp2_with fail
         go_ret
         exact ⟨rfl,rfl⟩
        | false=>
         go_wp2_with fail
         go_roundg (gk - 1)
         case measure=>have:=HIG.out;omega
         case rel=>exact ⟨rfl,i+1,by have:=HIG.out;omega,by go_num,by have:=HST4.out;simpa using this⟩
   ·have hRt:R=true:=by
     have:=HALL.out;rw[List.drop_of_length_le (by rw[Kaj];omega),allOk] at this;exact this.symm
    have HRT:=Jh hRt;clear hRt;go_wp2_with fail
    go_meet
    exact ⟨rfl,HRT.out⟩
 case rest=>
  obtain ⟨rfl,hRt⟩:=hcut;obtain ⟨w,rfl⟩:∃x,x=wc:=⟨_,rfl⟩;have hrr:=HRR.out;rw[hRt,Bool.true_and] at hrr;have HRR2:=Jh hrr;clear hrr hRt
  by_cases h0:s.size=0
  ·have hE:s.toList.isEmpty=true:=by rw[Khn];simp[h0]
   have hL:s.toList = []:=by simpa using hE
   have hrf:r=false:=by rw[←HRR2.out,h0];rfl
   subst hrf;clear h0;go_wp2_with fail
   go_ret
   exact ⟨rfl,rfl⟩
  ·have hE:s.toList.isEmpty=false:=by rw[Khn];simp[h0]
   obtain ⟨x,hx⟩:∃x,decide ((s.size:Int)≤32)=x:=⟨_,rfl⟩
   have hrf:r=x:=by
    rw[←HRR2.out,←hx,Bool.eq_iff_iff];simp only[Bool.and_eq_true,decide_eq_true_eq];omega
   subst hrf;clear h0;go_wp2_with fail
   go_ret
   exact ⟨rfl,rfl⟩
set_option maxHeartbeats 400000 in
theorem Kse (s:ByteArray) (r:Bool) (hr:fitV s.data.toList=r) (hs:s.size≤140737488351232) (w:World) :
  Calls Tryz.prog 189 #[.string s] w fun e w'=>e = .returned (.bool r)∧w=w':=by
 have hrr:(decide (1≤s.size) && decide (s.size≤64))=r:=by rw[←hr,fitV,Kaj]
 have HRR2:=Jh hrr;clear hr hrr
 by_cases h0:s.size=0
 ·have hE:s.toList.isEmpty=true:=by rw[Khn];simp[h0]
  have hL:s.toList = []:=by simpa using hE
  have hrf:r=false:=by rw[←HRR2.out,h0];rfl
  subst hrf;clear h0;go_enter Tryz.func189,Tryz.ntmps189
  go_wp2_with fail
  go_ret
  exact ⟨rfl,rfl⟩
 ·have hE:s.toList.isEmpty=false:=by rw[Khn];simp[h0]
  obtain ⟨x,hx⟩:∃x,decide ((s.size:Int)≤64)=x:=⟨_,rfl⟩
  have hrf:r=x:=by
   rw[←HRR2.out,←hx,Bool.eq_iff_iff];simp only[Bool.and_eq_true,decide_eq_true_eq];omega
  subst hrf;clear h0;go_enter Tryz.func189,Tryz.ntmps189
  go_wp2_with fail
  go_ret
  exact ⟨rfl,rfl⟩
end
end Go.Proofs.YtefpndiiedkmpaaGreatDoor
