/- Merged (what the claim wants of): StoCurA. -/
import Derived.Test.YtfpgbhimgfdddaaGreatDoorStk25
import Derived.Test.YtfpgbhimgfdddaaGreatDoorStk30
import Derived.Test.YtfpgbhimgfdddaaGreatDoorStk23
import Derived.Test.YtfpgbhimgfdddaaGreatDoorStk02
set_option linter.unusedVariables false
set_option linter.unusedSimpArgs false
/- The walks of layer 20 (store): Commit (printed by gen_stocur.py). -/
namespace Go.Proofs.YtfpgbhimgfdddaaGreatDoor
open Go.RowKit Go.Shelf Go.Sort
attribute [local go_sem ↓] Go.wp_at_zero Go.wp_at_succ
attribute [local go_sem] Later.cell Later.frozen

/-- One block alone may have changed. -/
structure Only (b : Nat) (w w' : World) : Prop where
  os : w'.os = w.os
  tape : w'.tape = w.tape
  output : w'.output = w.output
  size : w'.heap.size = w.heap.size
  block : ∀ j, j ≠ b → w'.heap[j]? = w.heap[j]?
theorem Only.refl (b : Nat) (w : World) : Only b w w := ⟨rfl, rfl, rfl, rfl, fun _ _ => rfl⟩
theorem Only.set {b : Nat} {w w' : World} (h : Only b w w') (k : Nat) (v : Value) : Only b w (w'.setCell ⟨b, k, none⟩ v) :=
  ⟨h.os, h.tape, h.output, by simpa using h.size, fun j hj => (Below.heap_setCell _ _ _ j (by simpa using hj)).trans (h.block j hj)⟩
theorem Only.own {b B : Nat} {w w' : World} (h : Only b w w') {T : TypeId} {sz n : Nat} {v : Value} {xs : List Value} (ho : w.ownsRow B T sz v n xs) (hb : b < B) : w'.ownsRow B T sz v n xs :=
  ownsRow.same ho fun k hk => h.block k (by have := (World.ownsRow.lt ho k hk).1; omega)
theorem Only.blk {b k : Nat} {w w' : World} (h : Only b w w') {T : TypeId} {cs : Array Value} (ho : Blk w k T cs) (hb : k ≠ b) : Blk w' k T cs := (h.block k hb).trans ho
theorem Dk.only {B0 M p b : Nat} {R : Nat → Nat} {d : Ds} {w w' : World} (h : Dk B0 M w R p d) (ho : Only b w w') (hb : R b = 0) : Dk B0 M w' R p d := by
  obtain ⟨A, h1, h2⟩ := h.ex
  refine ⟨⟨A, h1.same (fun j hj => ⟨ho.block j ?_, rfl⟩) (h1.inw.mono (Nat.le_of_eq ho.size.symm)) h1.low, h2⟩, h.wf⟩
  rintro rfl
  exact hj hb
theorem Out.only {b : Nat} {R R' : Nat → Nat} {w w' w'' : World} (h : Out R R' w w') (ho : Only b w' w'') (hb : w.heap.size ≤ b) : Out R R' w w'' :=
  ⟨ho.os.trans h.os, ho.tape.trans h.tape, ho.output.trans h.output, by have := h.size; have := ho.size; omega, fun j hj h0 => (ho.block j (by omega)).trans (h.block j hj h0), h.old⟩
theorem fillOnly (W : World) (b : Nat) (x0 x1 x2 x3 x4 x5 x6 x7 x8 x9 x10 x11 x12 : Value) : Only b W ((((((((((((((W.setCell ⟨b, 0, none⟩ x0).setCell ⟨b, 1, none⟩ x1).setCell ⟨b, 2, none⟩ x2).setCell ⟨b, 3, none⟩ x3).setCell ⟨b, 4, none⟩ x4).setCell ⟨b, 5, none⟩ x5).setCell ⟨b, 6, none⟩ x6).setCell ⟨b, 7, none⟩ x7).setCell ⟨b, 8, none⟩ x8).setCell ⟨b, 9, none⟩ x9).setCell ⟨b, 10, none⟩ x10).setCell ⟨b, 11, none⟩ x11).setCell ⟨b, 12, none⟩ x12)) :=
  (((((((((((((Only.refl b W).set _ _).set _ _).set _ _).set _ _).set _ _).set _ _).set _ _).set _ _).set _ _).set _ _).set _ _).set _ _).set _ _
section
variable {B0 M p : Nat} {a : Nat → Addr} {R R' : Nat → Nat} {d : Ds} {w w' : World}
theorem enc_yes (m : Man) (A : Option Addr) (c : Nat) (w : World) (hinf : Infs w A m.blocks.length m.blocks) (hlen : m.blocks.length ≤ 3518437208780) (hsm : m.small) (hT : NibTab w) (hf : m.fit = true) :
    Calls Tryz.prog 10 #[.agg (manV m (.slice A m.blocks.length c))] w fun e w' => e = .returned (.tuple #[.string ⟨(encM m).toArray⟩, .int .i64 0]) ∧ Below w.heap.size w w' :=
  (encode_calls m A c w hinf (by omega) hsm hT).mono fun e w' h => by
    unfold EncOut at h
    rw [hf] at h
    exact h
theorem enc_no (m : Man) (A : Option Addr) (c : Nat) (w : World) (hinf : Infs w A m.blocks.length m.blocks) (hlen : m.blocks.length ≤ 3518437208780) (hsm : m.small) (hT : NibTab w) (hf : m.fit = false) :
    Calls Tryz.prog 10 #[.agg (manV m (.slice A m.blocks.length c))] w fun e w' => e = .returned (.tuple #[.string ⟨#[]⟩, .int .i64 150]) ∧ Below w.heap.size w w' :=
  (encode_calls m A c w hinf (by omega) hsm hT).mono fun e w' h => by
    unfold EncOut at h
    rw [hf] at h
    exact h
set_option maxHeartbeats 4000000 in
theorem commit_no (m : Man) (A : Option Addr) (c : Nat) (P : Value) (w : World) (hinf : Infs w A m.blocks.length m.blocks) (hlen : m.blocks.length ≤ 3518437208780) (hsm : m.small) (hC : SCon B0 a) (hE : SEnv B0 a w) (hf : m.fit = false) :
    Calls Tryz.prog 12 #[P, .agg (manV m (.slice A m.blocks.length c))] w fun e w' => e = .returned (.iface 26 (.int .i64 150)) ∧ Below w.heap.size w w' := by
  obtain ⟨W, hW⟩ : ∃ W, w.alloc (.cells (manV m (.slice A m.blocks.length c)) 25) = W := ⟨_, rfl⟩
  have hbl : Below w.heap.size w W := by rw [← hW]; exact (Below.refl _ _).alloc (Nat.le_refl _) _
  have HK : Hid (Blk W w.heap.size 25 (manV m (.slice A m.blocks.length c))) := Lib.hid (by rw [← hW]; exact Blk.new _ _ _)
  have HN := Lib.hid (enc_no m A c W (hinf.below hbl) hlen hsm (hE.low hC hbl).nib hf)
  have HW := Lib.hid hW
  have HB := Lib.hid hbl
  clear hE hC hinf hlen hsm hf hbl hW
  go_enter Tryz.func12, Tryz.ntmps12
  go_upto_region 1 with fail
  have hW2 := HW.out
  rw [hW2]
  clear hW2
  have x0 : W.cell? ⟨w.heap.size, 0, none⟩ = some (.int .i64 m.w0) := HK.out.cell 0
  have x1 : W.cell? ⟨w.heap.size, 1, none⟩ = some (.int .i64 m.w1) := HK.out.cell 1
  have x2 : W.cell? ⟨w.heap.size, 2, none⟩ = some (.int .i64 m.w2) := HK.out.cell 2
  have x3 : W.cell? ⟨w.heap.size, 3, none⟩ = some (.int .i64 m.next) := HK.out.cell 3
  have x4 : W.cell? ⟨w.heap.size, 4, none⟩ = some (.int .i64 m.log) := HK.out.cell 4
  have x5 : W.cell? ⟨w.heap.size, 5, none⟩ = some ((.slice A m.blocks.length c)) := HK.out.cell 5
  have x6 : W.cell? ⟨w.heap.size, 6, none⟩ = some (.int .i64 m.cut) := HK.out.cell 6
  have x7 : W.cell? ⟨w.heap.size, 7, none⟩ = some (.int .i64 m.r0) := HK.out.cell 7
  have x8 : W.cell? ⟨w.heap.size, 8, none⟩ = some (.int .i64 m.r1) := HK.out.cell 8
  have x9 : W.cell? ⟨w.heap.size, 9, none⟩ = some (.int .i64 m.r2) := HK.out.cell 9
  have x10 : W.cell? ⟨w.heap.size, 10, none⟩ = some (.int .i64 m.l0) := HK.out.cell 10
  have x11 : W.cell? ⟨w.heap.size, 11, none⟩ = some (.int .i64 m.l1) := HK.out.cell 11
  have x12 : W.cell? ⟨w.heap.size, 12, none⟩ = some (.int .i64 m.l2) := HK.out.cell 12
  go_wp2_with fail
  refine HN.out.mono ?_
  rintro e w1 ⟨rfl, hb1⟩
  have HB1 := Lib.hid (HB.out.trans (hb1.mono HB.out.size))
  clear hb1
  go_wp2_with fail
  go_ret
  exact ⟨rfl, HB1.out⟩
set_option maxHeartbeats 4000000 in
theorem commit_yes (m : Man) (A : Option Addr) (c : Nat) (w : World) (hinf : Infs w A m.blocks.length m.blocks) (hlen : m.blocks.length ≤ 3518437208780) (hsm : m.small) (hC : SCon B0 a) (hE : SEnv B0 a w) (hf : m.fit = true) (hD : Dk B0 M w R p d) (hM : M + (encM m).length + 8 ≤ 536870912) :
    Calls Tryz.prog 12 #[.pointer (some ⟨p, 0, none⟩), .agg (manV m (.slice A m.blocks.length c))] w (DkOut a B0 (M + (encM m).length + 7) R p (putD d sManifest (encM m)) w) := by
  obtain ⟨W, hW⟩ : ∃ W, w.alloc (.cells (manV m (.slice A m.blocks.length c)) 25) = W := ⟨_, rfl⟩
  have hbl : Below w.heap.size w W := by rw [← hW]; exact (Below.refl _ _).alloc (Nat.le_refl _) _
  have HK : Hid (Blk W w.heap.size 25 (manV m (.slice A m.blocks.length c))) := Lib.hid (by rw [← hW]; exact Blk.new _ _ _)
  have HN := Lib.hid (enc_yes m A c W (hinf.below hbl) hlen hsm (hE.low hC hbl).nib hf)
  obtain ⟨T, hT⟩ : ∃ T : ByteArray, (⟨(encM m).toArray⟩ : ByteArray) = T := ⟨_, rfl⟩
  have hTl : T.data.toList = encM m := by rw [← hT]
  have hTz : T.size = (encM m).length := by rw [← hT]; show (encM m).toArray.size = _; simp
  have HT := Lib.hid (⟨hTl, hTz⟩ : _ ∧ _)
  rw [hT] at HN
  have HW := Lib.hid hW
  have HB := Lib.hid hbl
  have HD := Lib.hid (hD.below hbl)
  have HE := Lib.hid (hE.low hC hbl)
  have HC := Lib.hid hC
  have HM := Lib.hid hM
  clear hE hC hinf hlen hsm hf hbl hW hT hTl hTz hD hM
  go_enter Tryz.func12, Tryz.ntmps12
  go_upto_region 1 with fail
  have hW2 := HW.out
  rw [hW2]
  clear hW2
  have x0 : W.cell? ⟨w.heap.size, 0, none⟩ = some (.int .i64 m.w0) := HK.out.cell 0
  have x1 : W.cell? ⟨w.heap.size, 1, none⟩ = some (.int .i64 m.w1) := HK.out.cell 1
  have x2 : W.cell? ⟨w.heap.size, 2, none⟩ = some (.int .i64 m.w2) := HK.out.cell 2
  have x3 : W.cell? ⟨w.heap.size, 3, none⟩ = some (.int .i64 m.next) := HK.out.cell 3
  have x4 : W.cell? ⟨w.heap.size, 4, none⟩ = some (.int .i64 m.log) := HK.out.cell 4
  have x5 : W.cell? ⟨w.heap.size, 5, none⟩ = some ((.slice A m.blocks.length c)) := HK.out.cell 5
  have x6 : W.cell? ⟨w.heap.size, 6, none⟩ = some (.int .i64 m.cut) := HK.out.cell 6
  have x7 : W.cell? ⟨w.heap.size, 7, none⟩ = some (.int .i64 m.r0) := HK.out.cell 7
  have x8 : W.cell? ⟨w.heap.size, 8, none⟩ = some (.int .i64 m.r1) := HK.out.cell 8
  have x9 : W.cell? ⟨w.heap.size, 9, none⟩ = some (.int .i64 m.r2) := HK.out.cell 9
  have x10 : W.cell? ⟨w.heap.size, 10, none⟩ = some (.int .i64 m.l0) := HK.out.cell 10
  have x11 : W.cell? ⟨w.heap.size, 11, none⟩ = some (.int .i64 m.l1) := HK.out.cell 11
  have x12 : W.cell? ⟨w.heap.size, 12, none⟩ = some (.int .i64 m.l2) := HK.out.cell 12
  go_wp2_with fail
  refine HN.out.mono ?_
  rintro e w1 ⟨rfl, hb1⟩
  have HD1 := Lib.hid (HD.out.below hb1)
  have HE1 := Lib.hid (HE.out.low HC.out hb1)
  have HO1 : Hid (Out R R w w1) := Lib.hid (Out.of_below (HB.out.trans (hb1.mono HB.out.size)))
  have HP := Lib.hid (putfile_calls ⟨#[109, 97, 110, 105, 102, 101, 115, 116]⟩ T w1 HD1.out (by have := HM.out; have := HT.out.2; omega) HE1.out.hb HE1.out.e HC.out.ap (by decide))
  clear x0 x1 x2 x3 x4 x5 x6 x7 x8 x9 x10 x11 x12
  clear hb1
  go_wp2_with fail
  refine HP.out.mono ?_
  rintro e w2 ⟨v, R2, rfl, h1, h2, h3⟩
  have hp : putD d (⟨#[109, 97, 110, 105, 102, 101, 115, 116]⟩ : ByteArray).data.toList T.data.toList = putD d sManifest (encM m) := by rw [HT.out.1]; rfl
  rw [hp] at h1 h2
  have H1 := Lib.hid h1
  have H2 := Lib.hid h2
  have H3 := Lib.hid h3
  clear h1 h2 h3 hp
  go_wp2_with fail
  go_ret
  exact ⟨_, R2, rfl, H1.out, H2.out.more (by have := HT.out.2; omega), HO1.out.trans H3.out⟩
end
end Go.Proofs.YtfpgbhimgfdddaaGreatDoor
