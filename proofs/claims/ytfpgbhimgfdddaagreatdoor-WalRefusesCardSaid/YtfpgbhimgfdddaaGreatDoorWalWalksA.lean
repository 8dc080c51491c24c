/- The walks of layer 16 (wal): the name of a segment, its path, the last number. -/
import Derived.Test.YtfpgbhimgfdddaaGreatDoorWalPlain3
import Derived.Test.YtfpgbhimgfdddaaGreatDoorWak16
set_option linter.unusedVariables false
set_option linter.unusedSimpArgs false
namespace Go.Proofs.YtfpgbhimgfdddaaGreatDoor
open Go.RowKit Go.Shelf Go.Sort
attribute [local go_sem ↓] Go.wp_at_zero Go.wp_at_succ
attribute [local go_sem] Later.cell Later.frozen

set_option maxRecDepth 100000 in
set_option maxHeartbeats 1000000 in
theorem wname_calls (n : Int) (h1 : -9223372036854775808 ≤ n) (h2 : n ≤ 9223372036854775807) (w : World) (hT : PowTab w) :
    Calls Tryz.prog 36 #[.int .i64 n] w fun e w' => e = .returned (.string ⟨(nameT sS n).toArray⟩) ∧ Below w.heap.size w w' := by
  by_cases hlo : n < 1
  · have d1 : decide (n < 1) = true := by simpa using hlo
    have hf : nameT sS n = [] := nameT_bad _ (.inl hlo)
    rw [hf]
    clear hf
    go_enter Tryz.func36, Tryz.ntmps36
    go_wp2_with fail
    go_ret
    exact ⟨rfl, Below.refl _ _⟩
  · have d1 : decide (n < 1) = false := by simpa using hlo
    by_cases hhi : 99999999 < n
    · have d2 : decide (99999999 < n) = true := by simpa using hhi
      have hf : nameT sS n = [] := nameT_bad _ (.inr hhi)
      rw [hf]
      clear hf
      go_enter Tryz.func36, Tryz.ntmps36
      go_wp2_with fail
      go_ret
      exact ⟨rfl, Below.refl _ _⟩
    · have d2 : decide (99999999 < n) = false := by simpa using hhi
      have hf : nameT sS n = sS ++ padN 8 n.toNat := nameT_good _ (by omega) (by omega)
      obtain ⟨hd1, hd2⟩ := pad_dec 7 n.toNat (by omega)
      have hit : Lib.itoa n = Lib.decDigits n.toNat := by unfold Lib.itoa; rw [if_neg (by omega)]
      obtain ⟨D, hD⟩ : ∃ D : ByteArray, (⟨(Lib.itoa n).toArray⟩ : ByteArray) = D := ⟨_, rfl⟩
      have hDl : D.data.toList = Lib.decDigits n.toNat := by rw [← hD, hit]
      have hDs : D.size ≤ 8 := by rw [← text_size3, hDl]; exact hd1
      obtain ⟨c, hc⟩ : ∃ c : Nat, (8 : Int) - (D.size : Int) = (c : Int) := ⟨8 - D.size, by omega⟩
      obtain ⟨Z, hZ⟩ : ∃ Z : ByteArray, (⟨(Lib.repeatL (⟨#[48]⟩ : ByteArray).data.toList c).toArray⟩ : ByteArray) = Z := ⟨_, rfl⟩
      have hZl : Z.data.toList = List.replicate c 48 := by rw [← hZ]; exact repeat_one 48 c
      have hZs : Z.size ≤ 8 := by rw [← text_size3, hZl, List.length_replicate]; omega
      have HIT := Lib.hid (Tryz.strconv_Itoa n h1 h2 w hT)
      have HRP := Lib.hid (fun w => Tryz.strings_Repeat ⟨#[48]⟩ c w (by omega) (by show 1 * c ≤ _; omega))
      rw [hD] at HIT
      rw [hZ] at HRP
      have hfin : (⟨#[115]⟩ : ByteArray) ++ Z ++ D = (⟨(nameT sS n).toArray⟩ : ByteArray) := by
        refine bytes_eq ?_
        have e : 7 + 1 - (Lib.decDigits n.toNat).length = c := by rw [← hDl, text_size3]; omega
        rw [e] at hd2
        rw [hf, ← hd2]
        simp [ByteArray.data_append, hZl, hDl, sS]
      have HFIN := Lib.hid hfin
      clear hf hd1 hd2 hit hD hDl hZ hZl hfin
      go_enter Tryz.func36, Tryz.ntmps36
      go_wp2_with fail
      refine HIT.out.mono ?_
      rintro _ w1 ⟨rfl, k, os, rfl⟩
      have hb1 : Below w.heap.size w (grow (w.drewN k) os) := below_grow (below_drewN w k) (Nat.le_refl _) os
      obtain ⟨w1, hw1⟩ : ∃ x, grow (w.drewN k) os = x := ⟨_, rfl⟩
      rw [hw1] at hb1 ⊢
      clear hw1
      go_wp2_with fail
      refine (HRP.out w1).mono ?_
      rintro _ w2 ⟨rfl, hb2⟩
      have HB := Lib.hid (then_ hb1 hb2)
      clear hb1 hb2
      go_wp2_with fail
      rw [HFIN.out]
      go_ret
      exact ⟨rfl, HB.out⟩

/-- A log in memory. -/
def LogC (p : Nat) (D : ByteArray) (size last used : Int) : Array Value := #[.pointer (some ⟨p, 0, none⟩), .string D, .int .i64 size, .int .i64 last, .int .i64 used]
def LogAt (w : World) (g p : Nat) (D : ByteArray) (size last used : Int) : Prop := Blk w g 175 (LogC p D size last used)
section
variable {w w' : World} {g p : Nat} {D : ByteArray} {size last used : Int}
theorem LogAt.c0 (h : LogAt w g p D size last used) : w.cell? ⟨g, 0, none⟩ = some (.pointer (some ⟨p, 0, none⟩)) := Blk.cell h 0
theorem LogAt.c1 (h : LogAt w g p D size last used) : w.cell? ⟨g, 1, none⟩ = some (.string D) := Blk.cell h 1
theorem LogAt.c2 (h : LogAt w g p D size last used) : w.cell? ⟨g, 2, none⟩ = some (.int .i64 size) := Blk.cell h 2
theorem LogAt.c3 (h : LogAt w g p D size last used) : w.cell? ⟨g, 3, none⟩ = some (.int .i64 last) := Blk.cell h 3
theorem LogAt.c4 (h : LogAt w g p D size last used) : w.cell? ⟨g, 4, none⟩ = some (.int .i64 used) := Blk.cell h 4
theorem LogAt.lt (h : LogAt w g p D size last used) : g < w.heap.size := Blk.lt h
theorem LogAt.below (h : LogAt w g p D size last used) (hb : Below w.heap.size w w') : LogAt w' g p D size last used := Blk.below h hb (Blk.lt h)
theorem LogAt.blk (h : LogAt w g p D size last used) : Blk w g 175 (LogC p D size last used) := h
theorem LogAt.set (h : LogAt w g p D size last used) (l2 u2 : Int) : LogAt ((w.setCell ⟨g, 3, none⟩ (.int .i64 l2)).setCell ⟨g, 4, none⟩ (.int .i64 u2)) g p D size l2 u2 := (Blk.set_ h 3 _).set_ 4 _
theorem LogAt.setU (h : LogAt w g p D size last used) (u2 : Int) : LogAt (w.setCell ⟨g, 4, none⟩ (.int .i64 u2)) g p D size last u2 := Blk.set_ h 4 _
/-- What has become of the world, but for the log itself. -/
structure OutG (g : Nat) (R R' : Nat → Nat) (w w' : World) : Prop where
  os : w'.os = w.os
  tape : w'.tape = w.tape
  output : w'.output = w.output
  size : w.heap.size ≤ w'.heap.size
  block : ∀ k, k < w.heap.size → R k = 0 → k ≠ g → w'.heap[k]? = w.heap[k]?
  old : ∀ k, k < w.heap.size → R k = 0 → R' k = 0
variable {R R' R'' : Nat → Nat} {w'' : World}
theorem OutG.refl (g : Nat) (R : Nat → Nat) (w : World) : OutG g R R w w := ⟨rfl, rfl, rfl, Nat.le_refl _, fun _ _ _ _ => rfl, fun _ _ h => h⟩
theorem OutG.of (h : Out R R' w w') : OutG g R R' w w' := ⟨h.os, h.tape, h.output, h.size, fun k hk h0 _ => h.block k hk h0, h.old⟩
theorem OutG.trans (h : OutG g R R' w w') (k : OutG g R' R'' w' w'') : OutG g R R'' w w'' :=
  ⟨k.os.trans h.os, k.tape.trans h.tape, k.output.trans h.output, Nat.le_trans h.size k.size,
   fun i hi hr hg => (k.block i (Nat.lt_of_lt_of_le hi h.size) (h.old i hi hr) hg).trans (h.block i hi hr hg),
   fun i hi hr => k.old i (Nat.lt_of_lt_of_le hi h.size) (h.old i hi hr)⟩
theorem OutG.then_ (h : OutG g R R' w w') (k : Below w'.heap.size w' w'') : OutG g R R' w w'' := h.trans (.of (.of_below k))
theorem OutG.set (g : Nat) (R : Nat → Nat) (w : World) (i : Nat) (u : Value) : OutG g R R w (w.setCell ⟨g, i, none⟩ u) :=
  ⟨rfl, rfl, rfl, by simp [World.setCell], fun k _ _ hk => Below.heap_setCell _ _ _ _ hk, fun _ _ h => h⟩
theorem OutG.below {B : Nat} (h : OutG g R R' w w') (hB : B ≤ w.heap.size) (hR : ∀ k, k < B → R k = 0) (hg : B ≤ g) : Below B w w' :=
  ⟨h.os, h.tape, h.output, h.size, fun k hk => h.block k (by omega) (hR k hk) (by omega)⟩
theorem OutG.blk {b : Nat} {t : TypeId} {cs : Array Value} (h : OutG g R R' w w') (hb : Blk w b t cs) (h0 : R b = 0) (hg : b ≠ g) : Blk w' b t cs := (h.block b hb.lt h0 hg).trans hb
theorem Dk.setG {B0 M : Nat} {d : Ds} (h : Dk B0 M w R p d) (h0 : R g = 0) (i : Nat) (u : Value) : Dk B0 M (w.setCell ⟨g, i, none⟩ u) R p d := by
  obtain ⟨A, h1, h2⟩ := h.ex
  exact ⟨⟨A, h1.same (fun j hj => ⟨Below.heap_setCell _ _ _ _ (by rintro rfl; exact hj h0), rfl⟩) (h1.inw.mono (by simp [World.setCell])) h1.low, h2⟩, h.wf⟩

set_option maxHeartbeats 1000000 in
theorem wpath_calls (n : Int) (h1 : -9223372036854775808 ≤ n) (h2 : n ≤ 9223372036854775807) (hD : D.size ≤ 1073741824) (P : ByteArray) (hP : P.data.toList = wP D.data.toList n) (w : World) (hL : LogAt w g p D size last used) (hT : PowTab w) (hg : 9 < w.heap.size) :
    Calls Tryz.prog 90 #[.pointer (some ⟨g, 0, none⟩), .int .i64 n] w fun e w' => e = .returned (.string P) ∧ Below w.heap.size w w' := by
  obtain ⟨N, hN⟩ : ∃ N : ByteArray, (⟨(nameT sS n).toArray⟩ : ByteArray) = N := ⟨_, rfl⟩
  have hNl : N.data.toList = nameT sS n := by rw [← hN]
  have hNs : N.size ≤ 9 := by
    rw [← text_size3, hNl]
    unfold nameT
    split
    · decide
    · rw [List.length_append, padN_len]; decide
  have hc1 := hL.c1
  have hgl := hL.lt
  have HN : Hid (∀ x : Later w, Calls Tryz.prog 36 #[.int .i64 n] x.w fun e w' => e = .returned (.string N) ∧ Below x.w.heap.size x.w w') := Lib.hid fun x => by rw [← hN]; exact wname_calls n h1 h2 x.w (hT.below hg x.h)
  have HP : Hid (D ++ ⟨#[47]⟩ ++ N = P) := Lib.hid (bytes_eq (by rw [hP]; simp [ByteArray.data_append, hNl, wP]))
  clear hN hNl hP hL hT hg
  go_enter Tryz.func90, Tryz.ntmps90
  go_upto_region 1 with fail
  refine wp_region_later (by kernel_rfl) (by kernel_rfl) ?_
  repeat (go_big_quiet_step ((go_at_call 36; exact quiet_later _ (HN.out _))))
  refine wpQuiet_nil ?_
  rintro w2 ⟨⟨_, hb2⟩, rfl⟩
  rw [HP.out]
  go_wp2_with fail
  go_ret
  exact ⟨rfl, hb2⟩
set_option maxHeartbeats 1000000 in
theorem segment_calls (w : World) (hL : LogAt w g p D size last used) :
    Calls Tryz.prog 35 #[.pointer (some ⟨g, 0, none⟩)] w fun e w' => e = .returned (.int .i64 last) ∧ w = w' := by
  have hc3 := hL.c3
  clear hL
  go_enter Tryz.func35, Tryz.ntmps35
  go_wp2_with fail
  go_ret
  exact ⟨rfl, rfl⟩
set_option maxHeartbeats 1000000 in
theorem segment_nil (w : World) :
    Calls Tryz.prog 35 #[.pointer none] w fun e w' => e = .returned (.int .i64 0) ∧ w = w' := by
  go_enter Tryz.func35, Tryz.ntmps35
  go_wp2_with fail
  go_ret
  exact ⟨rfl, rfl⟩
end
end Go.Proofs.YtfpgbhimgfdddaaGreatDoor
