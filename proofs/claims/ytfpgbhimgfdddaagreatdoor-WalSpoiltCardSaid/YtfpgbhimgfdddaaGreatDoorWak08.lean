/- Merged (what the claim wants of): DskWalksP, DskWalksQ, DskWalksR, DskWalksS, DskWalksT. -/
import Derived.Test.YtfpgbhimgfdddaaGreatDoorWak07
set_option linter.unusedVariables false
set_option linter.unusedSimpArgs false
/- The walks of layer 3 (disk): a step with a file's bytes; Cut. -/
namespace Go.Proofs.YtfpgbhimgfdddaaGreatDoor
open Go.RowKit Go.Shelf Go.Maps Go.Sort
attribute [local go_sem ↓] Go.wp_at_zero Go.wp_at_succ
attribute [local go_sem] Later.cell Later.frozen

section
variable {B0 : Nat} {a : Nat → Addr} {R : Nat → Nat} {A : Adr} {d : Ds} {w w' : World}
theorem info_change : (Tryz.prog.info? 151).map (fun i => (i.zero, i.size, i.bytes)) = some (some (.agg #[.string ⟨#[]⟩, .int .i64 0]), 2, 24) := by kernel_rfl
theorem CD.file_step (h : CD B0 w R A d) {i b : Nat} (hi : i < d.files.length) (hb : A.φ[i]?.getD 0 = b) {u v' : Value} {N : Txt} {c : Ch} {w3 : World} (hblk : Blk w b 143 #[txtV (fAt d i).now, txtV (fAt d i).safe, u]) (hrb : R b = 10 + 2 * i)
    (hrow : ∀ g, u.ownBlock = some g → R g = 11 + 2 * i) (hg : (w.setCell ⟨b, 0, none⟩ (txtV N)).grownBy w3 u.ownBlock) (hrow3 : w3.ownsRow 0 151 2 v' ((fAt d i).steps.length + 1) ((fAt d i).steps.flatMap encC ++ encC c))
    (hat : v'.ownBlock = u.ownBlock ∨ ∃ g, v'.ownBlock = some g ∧ w.heap.size ≤ g) (hB : B0 ≤ w.heap.size) :
    CD B0 (w3.setCell ⟨b, 2, none⟩ v') (rowR R v' (11 + 2 * i)) A (setF d i ⟨N, (fAt d i).safe, (fAt d i).steps ++ [c]⟩) ∧ Own R (rowR R v' (11 + 2 * i)) w (w3.setCell ⟨b, 2, none⟩ v') := by
  have hold : ∀ k, k < w.heap.size → rowR R v' (11 + 2 * i) k = R k := fun k hk => rowR_old hrow hat hk
  have hbl := hblk.lt
  have hs1 : (w.setCell ⟨b, 0, none⟩ (txtV N)).heap.size = w.heap.size := by simp [World.setCell]
  have hs3 : (w3.setCell ⟨b, 2, none⟩ v').heap.size = w3.heap.size := by simp [World.setCell]
  have hsz : w.heap.size ≤ w3.heap.size := by have := hg.size; omega
  have hbu : some b ≠ u.ownBlock := by
    intro e
    have := hrow _ e.symm
    omega
  have hbv : v'.ownBlock ≠ some b := by
    intro e
    rcases hat with h1 | ⟨g, h1, h2⟩
    · rw [h1] at e; exact hbu e.symm
    · rw [h1] at e; injection e with e; omega
  have key : ∀ k, k < w.heap.size → k ≠ b → u.ownBlock ≠ some k → (w3.setCell ⟨b, 2, none⟩ v').heap[k]? = w.heap[k]? := by
    intro k hk h1 h2
    exact ((Below.heap_setCell _ _ _ k h1).trans (hg.block k (by omega) (fun e => h2 e.symm))).trans (Below.heap_setCell _ _ _ k h1)
  have hblk3 : Blk (w3.setCell ⟨b, 2, none⟩ v') b 143 #[txtV N, txtV (fAt d i).safe, v'] := (((hblk.set_ 0 (txtV N)).grown hg hbu).set_ 2 v')
  have hrow4 := ownsRow_setCell_other hrow3 (a := ⟨b, 2, none⟩) hbv v'
  refine ⟨CD.file_only h hi (fun k h0 h1 h2 => ⟨key k (h.inw k h0) (fun e => h1 (e ▸ hrb)) (fun e => h2 (hrow k e)), hold k (h.inw k h0)⟩) ?_ ?_ ?_, ?_⟩
  · intro k hk
    rw [hs3]
    unfold rowR at hk
    split at hk
    · rename_i e; exact (hrow3.lt k e).2
    · exact Nat.lt_of_lt_of_le (h.inw k hk) hsz
  · intro k hk
    rw [hold k (by omega)]
    exact h.low k hk
  · rw [hb]
    refine ⟨v', hblk3, by rw [hold b hbl]; exact hrb, ?_, fun g hg' => by simp [rowR, hg']⟩
    rw [List.length_append, List.flatMap_append]
    simpa using hrow4
  · refine ⟨hg.os, hg.tape, hg.output, by rw [hs3]; exact hsz, fun k hk hr => key k hk (fun e => by rw [e] at hr; omega) (fun e => by have := hrow k e; omega), hold⟩

set_option maxRecDepth 100000 in
set_option maxHeartbeats 4000000 in
theorem cut_calls (S : ByteArray) (n : Int) (w : World) (h : CD B0 w R A d) (hf : Fit d) (hS : S.size ≤ 1073741824) (hB : B0 ≤ w.heap.size) (hF : Fails B0 a w) (hF6 : Fail6 B0 a w) (hn1 : -9223372036854775808 ≤ n) (hn2 : n ≤ 9223372036854775807) (hnl : ∀ i, (fAt d i).now.length ≤ 1073741824) (hsl : ∀ i, (fAt d i).steps.length ≤ 1073741824) :
    Calls Tryz.prog 128 #[.pointer (some ⟨A.p, 0, none⟩), .string S, .int .i64 n] w (NamesOut B0 a R A (cutD d S.data.toList n) ⟨#[99, 117, 116]⟩ S w) := by
  obtain ⟨i0, hi0, hz0, hz1, hz2⟩ := info_parts info_change
  have HF := Lib.hid (file_calls (a := a) ⟨#[99, 117, 116]⟩ S w h hf hS hB hF)
  obtain ⟨r, hr⟩ : ∃ r, fileD d S.data.toList = r := ⟨_, rfl⟩
  have HR := Lib.hid hr
  rw [hr] at HF
  obtain ⟨p, hp⟩ : ∃ p, A.p = p := ⟨_, rfl⟩
  have HP := Lib.hid hp
  have HNL := Lib.hid hnl
  have HSL := Lib.hid hsl
  rw [hp] at HF ⊢
  clear hr hp hnl hsl
  go_enter Tryz.func128, Tryz.ntmps128
  go_wp2_with fail
  refine HF.out.mono ?_
  rintro _ w1 ⟨hb1, hm⟩
  cases r with
  | error k =>
    obtain ⟨hk, v, rfl, hv⟩ := hm
    have hfin : NamesOut B0 a R A (cutD d S.data.toList n) ⟨#[99, 117, 116]⟩ S w (.returned v) w1 := by
      have e1 : cutD d S.data.toList n = (k, d) := by unfold cutD; rw [HR.out]
      rw [e1]
      exact NamesOut.bad h hb1 hv
    have HFIN := Lib.hid hfin
    cases k with
    | zero => exact absurd rfl hk
    | succ k =>
      obtain ⟨q, rfl, _⟩ := hv
      clear hfin
      go_wp2_with fail
      go_ret
      exact HFIN.out
  | ok i =>
    have hm' : _ = Ending.returned (.tuple #[fptr A.φ i, .nilIface]) := hm
    subst hm'
    obtain ⟨hi, _⟩ := fileD_ok hf HR.out
    have hcd1 := h.below hb1
    have hF1 := hF.below (hb1.mono hB)
    obtain ⟨u1, hblk1, _⟩ := file_at hcd1 hi
    unfold fptr
    obtain ⟨b, hb⟩ : ∃ b, A.φ[i]?.getD 0 = b := ⟨_, rfl⟩
    have HBB := Lib.hid hb
    rw [hb] at hblk1 ⊢
    obtain ⟨T, hT⟩ : ∃ T : ByteArray, (⟨(fAt d i).now.toArray⟩ : ByteArray) = T := ⟨_, rfl⟩
    have hTT : T.data.toList = (fAt d i).now := by rw [← hT]
    have hTs : (fAt d i).now.length = T.size := by rw [← hTT]; exact text_size3 T
    have hTz : T.size ≤ 1073741824 := by rw [← hTs]; exact HNL.out i
    have c0 : w1.cell? ⟨b, 0, none⟩ = some (.string T) := by rw [← hT]; exact hblk1.cell 0
    have HT := Lib.hid hT
    have HTT := Lib.hid hTT
    have HTS := Lib.hid hTs
    clear hb hblk1 hT hTT hTs
    by_cases hbad : n < 0 ∨ (T.size : Int) < n
    · have e1 : cutD d S.data.toList n = (6, d) := by unfold cutD; rw [HR.out]; simp only []; rw [if_pos (by rw [HTS.out]; exact hbad)]
      have HE := Lib.hid e1
      have f6 : _ = some (failV a 6) := (hF6.below (hb1.mono hB)).2
      have hfl := fail_calls (a := a) ⟨#[99, 117, 116]⟩ S 5 w1
      unfold failV at f6 hfl
      simp only [failG] at f6
      have HFL := Lib.hid hfl
      clear e1 hfl hcd1 hF1
      by_cases hneg : n < 0
      · have d1 : decide (n < 0) = true := by simpa using hneg
        go_wp2_with fail
        refine HFL.out.mono ?_
        rintro e w5 ⟨v, rfl, hv5, hb5⟩
        have HFIN := Lib.hid (show NamesOut B0 a R A (cutD d S.data.toList n) ⟨#[99, 117, 116]⟩ S w (.returned v) w5 by rw [HE.out]; exact NamesOut.bad h (then_ hb1 hb5) hv5)
        clear hv5
        go_wp2_with fail
        go_ret
        exact HFIN.out
      · have d1 : decide (n < 0) = false := by simp; omega
        have d2 : decide ((T.size : Int) < n) = true := by simp; omega
        go_wp2_with fail
        refine HFL.out.mono ?_
        rintro e w5 ⟨v, rfl, hv5, hb5⟩
        have HFIN := Lib.hid (show NamesOut B0 a R A (cutD d S.data.toList n) ⟨#[99, 117, 116]⟩ S w (.returned v) w5 by rw [HE.out]; exact NamesOut.bad h (then_ hb1 hb5) hv5)
        clear hv5
        go_wp2_with fail
        go_ret
        exact HFIN.out
    · obtain ⟨m, rfl⟩ : ∃ m : Nat, n = (m : Int) := ⟨n.toNat, by omega⟩
      have d1 : decide ((m : Int) < 0) = false := by simp
      have d2 : decide ((T.size : Int) < (m : Int)) = false := by simp; omega
      have d2' : decide (T.size < m) = false := by simp; omega
      have hmT : m ≤ T.size := by omega
      have HST := Lib.hid (step_calls (a := a) ⟨#[99, 117, 116]⟩ S w1 hcd1 hf.aw (by have := hb1.size; omega) hF1)
      rw [HP.out] at HST
      have HSS := Lib.hid (stepD_same d)
      obtain ⟨k, dd, hk⟩ : ∃ k d1, stepD d = (k, d1) := ⟨_, _, rfl⟩
      have HK := Lib.hid hk
      have hcut : cutD d S.data.toList (m : Int) = if (stepD d).1 ≠ 0 then stepD d else (0, setF (stepD d).2 i { fAt d i with now := (fAt d i).now.take m, steps := (fAt d i).steps ++ [⟨[], true, m⟩] }) := by
        unfold cutD; rw [HR.out]; simp only []; rw [if_neg (by rw [HTS.out]; exact hbad)]; rfl
      have HCUT := Lib.hid hcut
      clear hk hcd1 hF1 hcut hbad
      go_wp2_with fail
      refine HST.out.mono ?_
      rintro _ w2 ⟨v, rfl, hv2, hcd2, hO2, _⟩
      rw [HK.out] at hv2 hcd2
      cases k with
      | succ k =>
        have hfin : NamesOut B0 a R A (cutD d S.data.toList (m : Int)) ⟨#[99, 117, 116]⟩ S w (.returned v) w2 := by
          rw [HCUT.out, HK.out]
          exact ⟨v, R, A, rfl, hv2, hcd2, (Own.of_below hb1).trans hO2, rfl, rfl⟩
        have HFIN := Lib.hid hfin
        obtain ⟨q, rfl, _⟩ := hv2
        clear hfin hcd2 hO2 c0
        go_wp2_with fail
        go_ret
        exact HFIN.out
      | zero =>
        obtain rfl : v = .nilIface := hv2
        have hss := HSS.out
        rw [HK.out] at hss
        have hi1 : i < dd.files.length := by rw [hss.2.2.2]; exact hi
        obtain ⟨u, hblk, hrb, hrow⟩ := file_at hcd2 hi1
        have efa : fAt dd i = fAt d i := by unfold fAt; rw [hss.2.2.2]
        rw [HBB.out] at hblk hrb
        have hTv : txtV (fAt dd i).now = .string T := by rw [efa]; unfold txtV; rw [HT.out]
        obtain ⟨l, hl⟩ : ∃ l, (fAt dd i).steps.length = l := ⟨_, rfl⟩
        have hrow' := hrow.1
        rw [hl] at hrow'
        have hll : l ≤ 1073741824 := by rw [← hl, efa]; exact HSL.out i
        obtain ⟨A4, c4, hu⟩ : ∃ A4 c4, u = .slice A4 l c4 := by
          rcases hrow'.2 with ⟨rfl, h0⟩ | ⟨g, cap, cur, rfl, _⟩
          · exact ⟨none, 0, by rw [h0]⟩
          · exact ⟨_, cap, rfl⟩
        subst hu
        have c0' : w2.cell? ⟨b, 0, none⟩ = some (.string T) := by rw [← hTv]; exact hblk.cell 0
        have c2' : w2.cell? ⟨b, 2, none⟩ = some (.slice A4 l c4) := hblk.cell 2
        have g0 := hblk.frozen 0
        have hNv : txtV ((fAt d i).now.take m) = .string (T.extract 0 m) := by unfold txtV; rw [← HTT.out, ← take_bytes]
        have HNV := Lib.hid hNv
        have HBLK := Lib.hid hblk
        have HCD2 := Lib.hid hcd2
        have HO2 := Lib.hid hO2
        have HROW := Lib.hid hrow.2
        have HL := Lib.hid hl
        have HEF := Lib.hid efa
        have hbl2 := hblk.lt
        clear hcd2 hO2 hTv hNv hblk hss hl efa c0 hrow
        go_upto_region 10 with fail
        have hrow2 : (w2.setCell ⟨b, 0, none⟩ (.string (T.extract 0 m))).ownsRow 0 151 2 (.slice A4 l c4) l ((fAt dd i).steps.flatMap encC) := ownsRow_setCell_other hrow' (a := ⟨b, 0, none⟩) (fun e => by have := HROW.out b e; omega) _
        have c2'' : (w2.setCell ⟨b, 0, none⟩ (.string (T.extract 0 m))).cell? ⟨b, 2, none⟩ = some (.slice A4 l c4) := (HBLK.out.set_ 0 _).cell 2
        have hblk5 := HBLK.out.set_ 0 (.string (T.extract 0 m))
        obtain ⟨w5, hw5⟩ : ∃ x, w2.setCell ⟨b, 0, none⟩ (.string (T.extract 0 m)) = x := ⟨_, rfl⟩
        have HW5 := Lib.hid hw5
        rw [hw5] at hrow2 c2'' hblk5 ⊢
        clear hw5 c0' c2' g0 hrow'
        go_wp2_with (at_builtin; refine wpList_append_own_at _ rfl _ _ 141 rfl 0 151 i0 (.agg #[.string ⟨#[]⟩, .int .i64 0]) 2 24 Tryz.underlying141 hi0 hz0 hz1 hz2 rfl (by decide) _ _ _ rfl (hrow2.alloc _) ⟨w5.heap.size, 0, none⟩ 1 1 [.string ⟨#[]⟩, .int .i64 (m : Int)] rfl rfl ?p1 ?p2 ?p3 ?p4 ?p5 ?_)
        case p1 => exact news_of_blk (l := [.string ⟨#[]⟩, .int .i64 (m : Int)]) (Blk.new w5 _ _)
        case p2 => intro u hu; simp at hu; rcases hu with rfl | rfl <;> rfl
        case p3 => unfold maxLen; omega
        case p4 => omega
        case p5 => exact Nat.zero_le _
        intro v' w6 hown' hgrow _ hat
        have hall : w5.grownBy w6 (Value.slice A4 l c4).ownBlock := (World.grownBy_alloc w5 _ _).trans hgrow
        have hsz5 : w5.heap.size = w2.heap.size := by rw [← HW5.out]; simp [World.setCell]
        obtain ⟨A6, c6, rfl⟩ : ∃ A6 c6, v' = .slice A6 (l + 1) c6 := by
          rcases hown'.2 with ⟨rfl, h0⟩ | ⟨g, cap, cur, rfl, _⟩
          · omega
          · exact ⟨_, cap, rfl⟩
        have hat' : (Value.slice A6 (l + 1) c6).ownBlock = (Value.slice A4 l c4).ownBlock ∨ ∃ g, (Value.slice A6 (l + 1) c6).ownBlock = some g ∧ w2.heap.size ≤ g := by
          rcases hat with h1 | h1
          · exact .inl h1
          · exact .inr ⟨_, h1, by omega⟩
        have hmore := CD.file_step HCD2.out hi1 HBB.out (u := .slice A4 l c4) (v' := .slice A6 (l + 1) c6) (N := (fAt d i).now.take m) (c := ⟨[], true, m⟩) (w3 := w6) HBLK.out hrb HROW.out (by rw [HNV.out, HW5.out]; exact hall) (by rw [HL.out]; exact hown') hat' (by have := HCD2.out.low; have := hb1.size; have := HO2.out.size; omega)
        obtain ⟨hc7, ho7⟩ := hmore
        have hbu : some b ≠ (Value.slice A4 l c4).ownBlock := by
          intro e
          have := HROW.out _ e.symm
          omega
        have hblk6 := hblk5.grown hall hbu
        have k2 : w6.cell? ⟨b, 2, none⟩ = some (.slice A4 l c4) := hblk6.cell 2
        have g2 := hblk6.frozen 2
        have hfin : NamesOut B0 a R A (cutD d S.data.toList (m : Int)) ⟨#[99, 117, 116]⟩ S w (.returned .nilIface) (w6.setCell ⟨b, 2, none⟩ (.slice A6 (l + 1) c6)) := by
          rw [HCUT.out, HK.out]
          rw [HEF.out] at hc7
          exact ⟨.nilIface, _, A, rfl, rfl, hc7, ((Own.of_below hb1).trans HO2.out).trans ho7, rfl, rfl⟩
        have HFIN := Lib.hid hfin
        clear hfin hc7 ho7 hat hat' hall hgrow hown' hblk6 hblk5 hrow2 c2'' hsz5
        go_wp2_with fail
        go_ret
        exact HFIN.out
end
end Go.Proofs.YtfpgbhimgfdddaaGreatDoor

/- The walks of layer 3 (disk): Flip. -/
namespace Go.Proofs.YtfpgbhimgfdddaaGreatDoor
open Go.RowKit Go.Shelf Go.Maps Go.Sort
attribute [local go_sem ↓] Go.wp_at_zero Go.wp_at_succ
attribute [local go_sem] Later.cell Later.frozen

section
variable {B0 : Nat} {a : Nat → Addr} {R : Nat → Nat} {A : Adr} {d : Ds} {w w' : World}

theorem bits_xor_u8 (x y : UInt8) : bits .xor .u8 (x.toNat : Int) (y.toNat : Int) = ((x ^^^ y).toNat : Int) := by
  have hx := x.toNat_lt
  have hy := y.toNat_lt
  have h0 : x.toNat ^^^ y.toNat < 2 ^ 8 := Nat.xor_lt_two_pow (by omega) (by omega)
  have h1 : (BitVec.ofInt 8 (x.toNat : Int)).toNat = x.toNat := by rw [BitVec.ofInt_natCast, BitVec.toNat_ofNat]; exact Nat.mod_eq_of_lt (by omega)
  have h2 : (BitVec.ofInt 8 (y.toNat : Int)).toNat = y.toNat := by rw [BitVec.ofInt_natCast, BitVec.toNat_ofNat]; exact Nat.mod_eq_of_lt (by omega)
  show IntKind.u8.wrap ((BitVec.ofInt 8 (x.toNat : Int) ^^^ BitVec.ofInt 8 (y.toNat : Int)).toNat : Int) = _
  rw [BitVec.toNat_xor, h1, h2, UInt8.toNat_xor]
  simp [IntKind.wrap, IntKind.bits, IntKind.signed]
  omega
theorem one_byte (c : UInt8) (b : Nat) (w : World) (h : w.cell? ⟨b, 0, none⟩ = some (.int .u8 (c.toNat : Int))) : (convert 104 9 (.slice (some ⟨b, 0, none⟩) 1 1)).run Tryz.prog w = .ok (.string ⟨#[c]⟩) w :=
  run_convert_bytes_back w _ _ 5 ⟨b, 0, none⟩ 1 [c] Tryz.underlying104 Tryz.underlying5 Tryz.underlying9 (fun j hj => by
    have : j = 0 := by simpa using hj
    subst this
    exact h)
set_option maxRecDepth 100000 in
set_option maxHeartbeats 4000000 in
theorem flip_calls (S : ByteArray) (k : Int) (m : UInt8) (w : World) (h : CD B0 w R A d) (hf : Fit d) (hS : S.size ≤ 1073741824) (hB : B0 ≤ w.heap.size) (hF : Fails B0 a w) (hF6 : Fail6 B0 a w) (hk1 : -9223372036854775808 ≤ k) (hk2 : k ≤ 9223372036854775807) (hnl : ∀ i, (fAt d i).now.length ≤ 1073741824) :
    Calls Tryz.prog 37 #[.pointer (some ⟨A.p, 0, none⟩), .string S, .int .i64 k, .int .u8 m.toNat] w (NamesOut B0 a R A (flipD d S.data.toList k m) ⟨#[102, 108, 105, 112]⟩ S w) := by
  have HF := Lib.hid (file_calls (a := a) ⟨#[102, 108, 105, 112]⟩ S w h hf hS hB hF)
  obtain ⟨r, hr⟩ : ∃ r, fileD d S.data.toList = r := ⟨_, rfl⟩
  have HR := Lib.hid hr
  rw [hr] at HF
  obtain ⟨p, hp⟩ : ∃ p, A.p = p := ⟨_, rfl⟩
  have HP := Lib.hid hp
  have HNL := Lib.hid hnl
  rw [hp] at HF ⊢
  clear hr hp hnl
  go_enter Tryz.func37, Tryz.ntmps37
  go_wp2_with fail
  refine HF.out.mono ?_
  rintro _ w1 ⟨hb1, hm⟩
  cases r with
  | error j =>
    obtain ⟨hj, v, rfl, hv⟩ := hm
    have hfin : NamesOut B0 a R A (flipD d S.data.toList k m) ⟨#[102, 108, 105, 112]⟩ S w (.returned v) w1 := by
      have e1 : flipD d S.data.toList k m = (j, d) := by unfold flipD; rw [HR.out]
      rw [e1]
      exact NamesOut.bad h hb1 hv
    have HFIN := Lib.hid hfin
    cases j with
    | zero => exact absurd rfl hj
    | succ j =>
      obtain ⟨q, rfl, _⟩ := hv
      clear hfin
      go_wp2_with fail
      go_ret
      exact HFIN.out
  | ok i =>
    have hm' : _ = Ending.returned (.tuple #[fptr A.φ i, .nilIface]) := hm
    subst hm'
    obtain ⟨hi, _⟩ := fileD_ok hf HR.out
    have hcd1 := h.below hb1
    have hF1 := hF.below (hb1.mono hB)
    obtain ⟨u1, hblk1, hrb, hrow⟩ := file_at hcd1 hi
    unfold fptr
    obtain ⟨b, hb⟩ : ∃ b, A.φ[i]?.getD 0 = b := ⟨_, rfl⟩
    have HBB := Lib.hid hb
    rw [hb] at hblk1 hrb ⊢
    obtain ⟨T, hT⟩ : ∃ T : ByteArray, (⟨(fAt d i).now.toArray⟩ : ByteArray) = T := ⟨_, rfl⟩
    have hTT : T.data.toList = (fAt d i).now := by rw [← hT]
    have hTs : (fAt d i).now.length = T.size := by rw [← hTT]; exact text_size3 T
    have hTz : T.size ≤ 1073741824 := by rw [← hTs]; exact HNL.out i
    have c0 : w1.cell? ⟨b, 0, none⟩ = some (.string T) := by rw [← hT]; exact hblk1.cell 0
    have hfl : flipD d S.data.toList k m = if k < 0 ∨ (T.size : Int) ≤ k then (6, d) else (0, setF d i ⟨flipT T.data.toList k.toNat m, flipT T.data.toList k.toNat m, []⟩) := by
      unfold flipD; rw [HR.out]; simp only []; rw [hTs, hTT]
    clear hb
    by_cases hbad : k < 0 ∨ (T.size : Int) ≤ k
    · rw [if_pos hbad] at hfl
      have HE := Lib.hid hfl
      have f6 : _ = some (failV a 6) := (hF6.below (hb1.mono hB)).2
      have hfc := fail_calls (a := a) ⟨#[102, 108, 105, 112]⟩ S 5 w1
      unfold failV at f6 hfc
      simp only [failG] at f6
      have HFL := Lib.hid hfc
      clear hfl hfc hcd1 hF1 hblk1 hrow hT hTT hTs
      by_cases h1 : k < 0
      · have d1 : decide (k < 0) = true := by simpa using h1
        clear hbad
        go_wp2_with fail
        refine HFL.out.mono ?_
        rintro e w5 ⟨v, rfl, hv5, hb5⟩
        have HFIN := Lib.hid (show NamesOut B0 a R A (flipD d S.data.toList k m) ⟨#[102, 108, 105, 112]⟩ S w (.returned v) w5 by rw [HE.out]; exact NamesOut.bad h (then_ hb1 hb5) hv5)
        clear hv5
        go_wp2_with fail
        go_ret
        exact HFIN.out
      · have d1 : decide (k < 0) = false := by simpa using h1
        have d2 : decide ((T.size : Int) ≤ k) = true := by simp; omega
        clear hbad
        go_wp2_with fail
        refine HFL.out.mono ?_
        rintro e w5 ⟨v, rfl, hv5, hb5⟩
        have HFIN := Lib.hid (show NamesOut B0 a R A (flipD d S.data.toList k m) ⟨#[102, 108, 105, 112]⟩ S w (.returned v) w5 by rw [HE.out]; exact NamesOut.bad h (then_ hb1 hb5) hv5)
        clear hv5
        go_wp2_with fail
        go_ret
        exact HFIN.out
    · rw [if_neg hbad] at hfl
      obtain ⟨x, rfl⟩ : ∃ x : Nat, k = (x : Int) := ⟨k.toNat, by omega⟩
      have HE := Lib.hid hfl
      have d1 : decide ((x : Int) < 0) = false := by simp
      have d2 : decide ((T.size : Int) ≤ (x : Int)) = false := by simp; omega
      have d2' : decide (T.size ≤ x) = false := by simp; omega
      have hx : x < T.size := by omega
      have HCD1 := Lib.hid hcd1
      clear hfl hbad hcd1 hF1 hrow hT hTT hTs
      have g0 := hblk1.frozen 0
      have HBLK := Lib.hid hblk1
      clear hblk1
      go_upto_region 6 with fail
      obtain ⟨c, hc⟩ : ∃ c, T[x] ^^^ m = c := ⟨_, rfl⟩
      have hxr := bits_xor_u8 T[x] m
      rw [hc] at hxr
      have HC := Lib.hid hc
      have hcv := one_byte c w1.heap.size ((w1.alloc (.cells #[.int .u8 (c.toNat : Int)] 5)).drew) (by simp [go_sem])
      have hbl := HBLK.out.lt
      clear hc
      go_region
      obtain ⟨N, hN⟩ : ∃ N, T.extract 0 x ++ ⟨#[c]⟩ ++ T.extract (x + 1) T.size = N := ⟨_, rfl⟩
      have hNl : N.data.toList = flipT T.data.toList x m := by
        rw [← hN]
        have e1 := take_bytes T x
        have e2 := drop_bytes T (x + 1)
        have e3 : T.data.toList[x]?.getD 0 = T[x] := by
          have hl : x < T.data.toList.length := hx
          rw [List.getElem?_eq_getElem hl]
          simp [ByteArray.getElem_eq_getElem_data]
        unfold flipT
        rw [e3, HC.out, ← e1, ← e2]
        simp [ByteArray.data_append]
      have hNv : txtV (flipT T.data.toList x m) = .string N := by unfold txtV; rw [← hNl]
      rw [hN]
      have hb3 : Blk ((w1.setCell ⟨b, 0, none⟩ (.string N)).alloc (.cells #[.int .u8 (c.toNat : Int)] 5)).drew b 143 #[.string N, txtV (fAt d i).safe, u1] := (HBLK.out.set_ 0 (.string N)).alloc _
      have hO3 : Own R R w ((w1.setCell ⟨b, 0, none⟩ (.string N)).alloc (.cells #[.int .u8 (c.toNat : Int)] 5)).drew := (Own.of_below hb1).trans ((Own.of_set _ (by omega)).trans ((Own.of_alloc _).trans (Own.of_below (Below.refl _ _).drew)))
      have hs3 : w1.heap.size ≤ ((w1.setCell ⟨b, 0, none⟩ (.string N)).alloc (.cells #[.int .u8 (c.toNat : Int)] 5)).drew.heap.size := by simp [World.setCell, World.alloc, World.drew]
      have hk3 : ∀ k, k < w1.heap.size → k ≠ b → ((w1.setCell ⟨b, 0, none⟩ (.string N)).alloc (.cells #[.int .u8 (c.toNat : Int)] 5)).drew.heap[k]? = w1.heap[k]? := by
        intro k hk hne
        exact (Below.heap_alloc _ _ _ (by simpa [World.setCell] using hk)).trans (Below.heap_setCell _ _ _ k hne)
      obtain ⟨w3, hw3⟩ : ∃ w3, ((w1.setCell ⟨b, 0, none⟩ (.string N)).alloc (.cells #[.int .u8 (c.toNat : Int)] 5)).drew = w3 := ⟨_, rfl⟩
      rw [hw3] at hb3 hO3 hs3 hk3 ⊢
      have hb4 : Blk ((w3.setCell ⟨b, 1, none⟩ (.string N)).setCell ⟨b, 2, none⟩ (.slice none 0 0)) b 143 #[.string N, .string N, .slice none 0 0] := (hb3.set_ 1 (.string N)).set_ 2 (.slice none 0 0)
      have hcd4 : CD B0 ((w3.setCell ⟨b, 1, none⟩ (.string N)).setCell ⟨b, 2, none⟩ (.slice none 0 0)) R A (setF d i ⟨flipT T.data.toList x m, flipT T.data.toList x m, []⟩) := by
        refine CD.file_only HCD1.out hi (fun k h0 h1 h2 => ⟨?_, rfl⟩) (fun k hk => by have := HCD1.out.inw k hk; simp [World.setCell]; omega) HCD1.out.low ?_
        · have hne : k ≠ b := by rintro rfl; exact h1 hrb
          exact ((Below.heap_setCell _ _ _ k hne).trans (Below.heap_setCell _ _ _ k hne)).trans (hk3 k (HCD1.out.inw k h0) hne)
        · rw [HBB.out]
          exact ⟨.slice none 0 0, by rw [hNv]; exact hb4, hrb, RowIs.nil⟩
      have hfin : NamesOut B0 a R A (flipD d S.data.toList (x : Int) m) ⟨#[102, 108, 105, 112]⟩ S w (.returned .nilIface) ((w3.setCell ⟨b, 1, none⟩ (.string N)).setCell ⟨b, 2, none⟩ (.slice none 0 0)) := by
        rw [HE.out]
        exact ⟨.nilIface, R, A, rfl, rfl, hcd4, hO3.trans ((Own.of_set _ (by omega)).trans (Own.of_set _ (by omega))), rfl, rfl⟩
      have HFIN := Lib.hid hfin
      obtain ⟨X, hX⟩ : ∃ X : ByteArray, (⟨(fAt d i).safe.toArray⟩ : ByteArray) = X := ⟨_, rfl⟩
      have j0 : _ = some (Value.string N) := hb3.cell 0
      have j1 : w3.cell? ⟨b, 1, none⟩ = some (.string X) := by rw [← hX]; exact hb3.cell 1
      have j2 : _ = some u1 := hb3.cell 2
      have g1 := hb3.frozen 1
      have g2 := hb3.frozen 2
      clear hfin hcd4 hb4 hb3 hO3 hs3 hk3 hN hNl hNv hcv hxr c0 g0 hX hw3 hbl
      go_wp2_with fail
      go_ret
      exact HFIN.out
end
end Go.Proofs.YtfpgbhimgfdddaaGreatDoor

/- The walks of layer 3 (disk): SyncNames. -/
namespace Go.Proofs.YtfpgbhimgfdddaaGreatDoor
open Go.RowKit Go.Shelf Go.Maps Go.Sort
attribute [local go_sem ↓] Go.wp_at_zero Go.wp_at_succ
attribute [local go_sem] Later.cell Later.frozen

section
variable {B0 : Nat} {a : Nat → Addr} {R : Nat → Nat} {A : Adr} {d : Ds} {w w' : World}
/-- The world in which the names are safe. -/
def safeW (w : World) (p x y : Nat) : World := ((w.setCell ⟨p, 2, none⟩ (.map (some x))).setCell ⟨p, 3, none⟩ (.map (some y))).setCell ⟨p, 4, none⟩ (.slice none 0 0)
theorem safeW_size (w : World) (p x y : Nat) : (safeW w p x y).heap.size = w.heap.size := by simp [safeW, World.setCell]
theorem safeW_heap (w : World) {p x y k : Nat} (h : k ≠ p) : (safeW w p x y).heap[k]? = w.heap[k]? :=
  ((Below.heap_setCell _ _ _ k h).trans (Below.heap_setCell _ _ _ k h)).trans (Below.heap_setCell _ _ _ k h)
theorem CD.resafe (h : CD B0 w R A d) {w1 : World} {x y : Nat} (hb : Below w.heap.size w w1) (hx : SM w1 x (dirF d.things)) (hy : SM w1 y (filF A.φ d.things)) (hxy : x ≠ y) (hxl : w.heap.size ≤ x) (hyl : w.heap.size ≤ y) (hB : B0 ≤ w.heap.size) :
    CD B0 (safeW w1 A.p x y) (giv (giv R x 4) y 6) { A with sd := x, sf := y, sv := .slice none 0 0 } { d with safe := d.things, steps := [] } ∧ Own R (giv (giv R x 4) y 6) w (safeW w1 A.p x y) := by
  have hpl := Blk.lt h.blk
  have hp0 : A.p ≠ x := by omega
  have hp1 : A.p ≠ y := by omega
  have hold : ∀ k, k < w.heap.size → giv (giv R x 4) y 6 k = R k := fun k hk => by rw [giv_ne (by omega), giv_ne (by omega)]
  have hblk := Blk.below h.blk hb hpl
  have hx1 := SMap.lt hx
  have hy1 := SMap.lt hy
  have key : ∀ k, R k ≠ 0 → R k ≠ 1 → (safeW w1 A.p x y).heap[k]? = w.heap[k]? ∧ giv (giv R x 4) y 6 k = R k := fun k hk h1 =>
    ⟨(safeW_heap w1 (fun e => h1 (by rw [e]; exact h.rp))).trans (hb.block k (h.inw k hk)), hold k (h.inw k hk)⟩
  have hin : InW (giv (giv R x 4) y 6) (safeW w1 A.p x y) := by
    intro k hk
    rw [safeW_size]
    by_cases e1 : k = y
    · omega
    by_cases e2 : k = x
    · omega
    rw [giv_ne e1, giv_ne e2] at hk
    exact Nat.lt_of_lt_of_le (h.inw k hk) hb.size
  refine ⟨?_, ?_⟩
  · exact {
      blk := ((Blk.set_ hblk 2 _).set_ 3 _).set_ 4 _
      rp := by rw [hold _ hpl]; exact h.rp
      dirs := h.dirs.same fun k hk => key k (by omega) (by omega)
      files := h.files.same fun k hk => key k (by omega) (by omega)
      sdirs := ⟨hx.same (safeW_heap w1 (Ne.symm hp0)), by show giv (giv R x 4) y 6 x = 4; rw [giv_ne hxy, giv_self]⟩
      sfiles := ⟨hy.same (safeW_heap w1 (Ne.symm hp1)), giv_self _ _ _⟩
      steps := ⟨[], RowIs.nil, rfl, fun i s f hs _ => by simp at hs⟩
      bytes := h.bytes.same fun k hk => key k (by omega) (by omega)
      inw := hin
      low := fun k hk => by rw [hold k (by omega)]; exact h.low k hk }
  · exact ⟨hb.os, hb.tape, hb.output, by rw [safeW_size]; exact hb.size, fun k hk hr => (safeW_heap w1 (fun e => by rw [e, h.rp] at hr; omega)).trans (hb.block k hk), hold⟩

set_option maxRecDepth 100000 in
set_option maxHeartbeats 4000000 in
theorem syncNames_calls (w : World) (h : CD B0 w R A d) (hf : Fit d) (hB : B0 ≤ w.heap.size) (hF : Fails B0 a w) :
    Calls Tryz.prog 75 #[.pointer (some ⟨A.p, 0, none⟩)] w (NamesOut B0 a R A (syncNamesD d) ⟨#[110, 97, 109, 101, 115]⟩ ⟨#[]⟩ w) := by
  obtain ⟨p, hp⟩ : ∃ p, A.p = p := ⟨_, rfl⟩
  have HP := Lib.hid hp
  have hoff : w.cell? ⟨p, 6, none⟩ = some (.bool d.off) := by rw [← hp]; exact Blk.cell h.blk 6
  obtain ⟨k, hk⟩ : ∃ k, readyR d.off true = k := ⟨_, rfl⟩
  have HK := Lib.hid hk
  have HRD := Lib.hid (ready_calls (B0 := B0) (a := a) p d.off true ⟨#[110, 97, 109, 101, 115]⟩ ⟨#[]⟩ k hk w hoff hF)
  rw [hp]
  clear hk hp hoff
  go_enter Tryz.func75, Tryz.ntmps75
  go_wp2_with fail
  refine HRD.out.mono ?_
  rintro _ w1 ⟨v, rfl, hv1, hb1⟩
  cases k with
  | succ k =>
    have hfin : NamesOut B0 a R A (syncNamesD d) ⟨#[110, 97, 109, 101, 115]⟩ ⟨#[]⟩ w (.returned v) w1 := by
      have e1 : syncNamesD d = (k + 1, d) := by
        have hk := HK.out
        unfold readyR at hk
        unfold syncNamesD
        rw [← hk]
        cases ho : d.off with
        | true => simp
        | false => rw [ho] at hk; simp at hk
      rw [e1]
      exact NamesOut.bad h hb1 hv1
    obtain ⟨q4, rfl, _⟩ := hv1
    have HFIN := Lib.hid hfin
    clear hfin
    go_wp2_with fail
    go_ret
    exact HFIN.out
  | zero =>
    obtain rfl : v = .nilIface := hv1
    have ho : d.off = false := by
      have hk := HK.out
      unfold readyR at hk
      cases ho : d.off with
      | true => rw [ho] at hk; simp at hk
      | false => rfl
    have hcd1 := h.below hb1
    have HST := Lib.hid (step_calls (a := a) ⟨#[110, 97, 109, 101, 115]⟩ ⟨#[]⟩ w1 hcd1 hf.aw (by have := hb1.size; omega) (hF.below (hb1.mono hB)))
    rw [HP.out] at HST
    have HSS := Lib.hid (stepD_same d)
    obtain ⟨k, dd, hk⟩ : ∃ k d1, stepD d = (k, d1) := ⟨_, _, rfl⟩
    have HKK := Lib.hid hk
    have e1 : syncNamesD d = if k ≠ 0 then (k, dd) else (0, { dd with safe := d.things, steps := [] }) := by unfold syncNamesD; rw [ho, hk]; rfl
    have HE := Lib.hid e1
    clear hk hcd1 e1 ho
    go_wp2_with fail
    refine HST.out.mono ?_
    rintro _ w2 ⟨v, rfl, hv2, hcd2, hO2, _⟩
    rw [HKK.out] at hv2 hcd2
    cases k with
    | succ k =>
      have hfin : NamesOut B0 a R A (syncNamesD d) ⟨#[110, 97, 109, 101, 115]⟩ ⟨#[]⟩ w (.returned v) w2 := by
        rw [HE.out]
        exact ⟨v, R, A, rfl, hv2, hcd2, (Own.of_below hb1).trans hO2, rfl, rfl⟩
      have HFIN := Lib.hid hfin
      obtain ⟨q, rfl, _⟩ := hv2
      clear hfin hcd2 hO2
      go_wp2_with fail
      go_ret
      exact HFIN.out
    | zero =>
      obtain rfl : v = .nilIface := hv2
      have hss := HSS.out
      rw [HKK.out] at hss
      have HTW := Lib.hid (twinD_calls A.md A.mf (dirF dd.things) (filF A.φ dd.things))
      have HBLK := Lib.hid hcd2.blk
      have c0 : w2.cell? ⟨A.p, 0, none⟩ = some (.map (some A.md)) := Blk.cell hcd2.blk 0
      have c1 : w2.cell? ⟨A.p, 1, none⟩ = some (.map (some A.mf)) := Blk.cell hcd2.blk 1
      rw [HP.out] at c0 c1
      obtain ⟨md, hmd⟩ : ∃ x, A.md = x := ⟨_, rfl⟩
      obtain ⟨mf, hmf⟩ : ∃ x, A.mf = x := ⟨_, rfl⟩
      rw [hmd] at c0 HTW
      rw [hmf] at c1 HTW
      have HC2 := Lib.hid hcd2
      have HO2 := Lib.hid hO2
      have HSM1 := Lib.hid (show SM w2 md (dirF dd.things) by rw [← hmd]; exact hcd2.dirs.1)
      have HSM2 := Lib.hid (show SM w2 mf (filF A.φ dd.things) by rw [← hmf]; exact hcd2.files.1)
      clear hcd2 hO2 hmd hmf
      go_wp2_with fail
      refine (HTW.out w2 HSM1.out HSM2.out).mono ?_
      rintro _ w3 ⟨x, y, rfl, hx, hy, hxy, hxl, hyl, hb3⟩
      obtain ⟨hcd4, hO4⟩ := CD.resafe HC2.out hb3 hx hy hxy hxl hyl (by have := hb1.size; have := HO2.out.size; omega)
      have hfin : NamesOut B0 a R A (syncNamesD d) ⟨#[110, 97, 109, 101, 115]⟩ ⟨#[]⟩ w (.returned .nilIface) (safeW w3 A.p x y) := by
        rw [HE.out, ← hss.1]
        exact ⟨.nilIface, _, _, rfl, rfl, hcd4, ((Own.of_below hb1).trans HO2.out).trans hO4, rfl, rfl⟩
      rw [HP.out] at hfin
      unfold safeW at hfin
      have HFIN := Lib.hid hfin
      have hblk := HBLK.out
      unfold DBlk at hblk
      rw [HP.out] at hblk
      have hblk3 := Blk.below hblk hb3 (Blk.lt hblk)
      obtain ⟨sd, hsd⟩ : ∃ x, A.sd = x := ⟨_, rfl⟩
      obtain ⟨sf, hsf⟩ : ∃ x, A.sf = x := ⟨_, rfl⟩
      obtain ⟨sv, hsv⟩ : ∃ x, A.sv = x := ⟨_, rfl⟩
      rw [hsd, hsf, hsv] at hblk3
      have k2 : w3.cell? ⟨p, 2, none⟩ = some (.map (some sd)) := Blk.cell hblk3 2
      have k3 : w3.cell? ⟨p, 3, none⟩ = some (.map (some sf)) := Blk.cell hblk3 3
      have k4 : w3.cell? ⟨p, 4, none⟩ = some sv := Blk.cell hblk3 4
      have g2 := Blk.frozen hblk3 2
      have g3 := Blk.frozen hblk3 3
      have g4 := Blk.frozen hblk3 4
      clear hfin hcd4 hO4 hx hy hxy hxl hyl hblk hblk3 hsd hsf hsv hss c0 c1 hb3
      go_wp2_with fail
      go_ret
      exact HFIN.out
end
end Go.Proofs.YtfpgbhimgfdddaaGreatDoor

/- The walks of layer 3 (disk): Used. -/
namespace Go.Proofs.YtfpgbhimgfdddaaGreatDoor
open Go.RowKit Go.Shelf Go.Maps Go.Sort
attribute [local go_sem ↓] Go.wp_at_zero Go.wp_at_succ
attribute [local go_sem] Later.cell Later.frozen

section
variable {B0 : Nat} {a : Nat → Addr} {R : Nat → Nat} {A : Adr} {d : Ds} {w w' : World}
/-- The bytes of the files that have been seen. -/
def seenL (d : Ds) (left : Txt → Bool) (l : List Th) : Nat := (l.map fun x => if x.dir || left x.path then 0 else (nowAt d x.at_).length).sum
theorem seenL_zero {left : Txt → Bool} {l : List Th} (h : ∀ x ∈ l, x.dir = false → left x.path = true) : seenL d left l = 0 := by
  unfold seenL
  induction l with
  | nil => rfl
  | cons x l ih =>
    rw [List.map_cons, List.sum_cons, ih fun y hy => h y (List.mem_cons_of_mem _ hy)]
    cases hd : x.dir with
    | true => simp
    | false => simp [h x (List.mem_cons_self) hd]
theorem seenL_all {left : Txt → Bool} {l : List Th} (h : ∀ x, left x = false) : seenL d left l = usedL d l := by
  unfold seenL usedL
  simp [h]
theorem seenL_le {left : Txt → Bool} {l : List Th} : seenL d left l ≤ usedL d l := by
  unfold seenL usedL
  induction l with
  | nil => exact Nat.le_refl _
  | cons x l ih =>
    simp only [List.map_cons, List.sum_cons]
    refine Nat.add_le_add ?_ ih
    cases x.dir <;> cases left x.path <;> simp
theorem seenL_same {left left' : Txt → Bool} {l : List Th} (h : ∀ x ∈ l, left' x.path = left x.path) : seenL d left' l = seenL d left l := by
  unfold seenL
  congr 1
  exact List.map_congr_left fun x hx => by rw [h x hx]
theorem seenL_one {left left' : Txt → Bool} {l : List Th} (hn : (l.map Th.path).Nodup) {x : Th} (hx : x ∈ l) (hd : x.dir = false) (h1 : left x.path = true) (h2 : left' x.path = false) (h3 : ∀ z, z ≠ x.path → left' z = left z) :
    seenL d left' l = seenL d left l + (nowAt d x.at_).length := by
  induction l with
  | nil => cases hx
  | cons y l ih =>
    rw [List.map_cons, List.nodup_cons] at hn
    have e1 : ∀ f, seenL d f (y :: l) = (if y.dir || f y.path then 0 else (nowAt d y.at_).length) + seenL d f l := fun f => by unfold seenL; rw [List.map_cons, List.sum_cons]
    rw [e1, e1]
    rcases List.mem_cons.1 hx with rfl | hx'
    · rw [seenL_same (left' := left') (left := left) fun z hz => h3 _ fun e => hn.1 (by rw [← e]; exact List.mem_map_of_mem hz), h1, h2, hd]
      simp
      omega
    · rw [ih hn.2 hx', h3 y.path fun e => hn.1 (by rw [e]; exact List.mem_map_of_mem hx')]
      omega

set_option maxRecDepth 100000 in
set_option maxHeartbeats 4000000 in
theorem used_calls (w : World) (h : CD B0 w R A d) (hf : Fit d) (hu : usedL d d.things ≤ 4611686018427387904) :
    Calls Tryz.prog 30 #[.pointer (some ⟨A.p, 0, none⟩)] w fun e w' => e = .returned (.int .i64 (usedD d : Int)) ∧ Below w.heap.size w w' := by
  obtain ⟨p, hp⟩ : ∃ p, A.p = p := ⟨_, rfl⟩
  have HP := Lib.hid hp
  have hoff : w.cell? ⟨p, 6, none⟩ = some (.bool d.off) := by rw [← hp]; exact Blk.cell h.blk 6
  obtain ⟨o, ho⟩ : ∃ o, d.off = o := ⟨_, rfl⟩
  rw [ho] at hoff
  have HOF := Lib.hid (off_calls p o w hoff)
  obtain ⟨b, hb⟩ : ∃ b, A.mf = b := ⟨_, rfl⟩
  have c1 : w.cell? ⟨p, 1, none⟩ = some (.map (some b)) := by rw [← hp, ← hb]; exact Blk.cell h.blk 1
  have hsm : SM w b (filF A.φ d.things) := by rw [← hb]; exact h.files.1
  rw [hp]
  clear hp hb hoff
  go_enter Tryz.func30, Tryz.ntmps30
  go_wp2_with fail
  refine HOF.out.mono ?_
  rintro _ w1 ⟨rfl, rfl⟩
  cases o with
  | true =>
    have e1 : usedD d = 0 := by unfold usedD; rw [ho]; rfl
    have HE := Lib.hid e1
    clear c1 hsm e1
    go_wp2_with fail
    go_ret
    exact ⟨by rw [HE.out]; rfl, Below.refl _ _⟩
  | false =>
    have e1 : usedD d = usedL d d.things := by unfold usedD; rw [ho]; rfl
    have HE := Lib.hid e1
    obtain ⟨D, hown, hhas, hat⟩ := hsm
    have hsize := SMap.size_le Tryz.underlying9 hown (d.things.map Th.path) (fun x hx => filF_in (φ := A.φ) (by rw [← hhas]; exact hx))
    rw [List.length_map] at hsize
    have htl := hf.tl
    have HHAS := Lib.hid hhas
    have HAT := Lib.hid hat
    have H := Lib.hid h
    clear hhas hat h e1 ho
    have hbl := hown.lt
    go_wp2_with (at_range; refine wpList_range_own _ rfl _ 120 rfl 9 140 law3 Tryz.underlying120 HR b (Maps.size D) D rfl hown ?_; intro w0 hrg0 hg0 hs0)
    obtain ⟨r, hr⟩ : ∃ r, w.heap.size = r := ⟨_, rfl⟩
    have hB0 : Below r w w0 := ⟨hg0.os, hg0.tape, hg0.output, hg0.size, fun k hk => hg0.block k (by omega) (by simp)⟩
    have HRS := Lib.hid hr
    rw [hr] at hrg0 ⊢
    clear hr hs0
    go_frame
    go_loopg [3] (Maps.size D) (fun g s3 wr => ∃ (left : Lit → Bool) (cnt : Nat) (m : Nat), s3 = .int .i64 (m : Int) ∧ seenL d (fun z => left (.string z)) d.things = m ∧ cnt ≤ g ∧ wr.ranges Tryz.prog 9 HR b r (Maps.size D) D left cnt ∧ Below r w wr)
    case atStart =>
      refine ⟨Maps.has D, Maps.size D, 0, rfl, seenL_zero fun x hx hd => ?_, Nat.le_refl _, hrg0, hB0⟩
      rw [HHAS.out x.path]
      exact Option.isSome_iff_exists.2 ⟨_, (filF_iff hf.tw.nodup).2 ⟨x, hx, hd, rfl, rfl⟩⟩
    case round =>
      obtain ⟨left, cnt, m, rfl, hsum, hcg, hrg, hB⟩ := hrel
      have HSUM := Lib.hid hsum
      clear hsum
      go_wp2_with (at_next; refine wpList_next_ranges _ rfl _ rfl 9 law3 HR Value.string (fun v : Value => v) (fun key kl hk => by obtain ⟨x, e, _⟩ := Maps.keyOf_str Tryz.underlying9 hk; exact ⟨_, e⟩) (fun v _ _ => ⟨v, rfl⟩) b r (Maps.size D) D left cnt rfl hrg ?_ ?_)
      · intro hc0 hl0
        have hm : m = usedD d := by rw [HE.out, ← HSUM.out]; exact seenL_all fun x => by rw [hl0]
        have HM := Lib.hid hm
        clear hc0 hl0 hm
        go_wp2_with fail
        go_ret
        exact ⟨by rw [HM.out]; rfl, by rw [HRS.out]; exact hB⟩
      · intro x c kl y y2 w2 cnt2 hkx hlk hv hat2 hrg2 hlt hg2 hs2 hen
        clear hs2
        obtain ⟨k, e1, rfl, _⟩ := Maps.keyOf_str Tryz.underlying9 hkx
        have hfk : (filF A.φ d.things k).isSome = true := by rw [← HHAS.out k]; exact Maps.has_true_of_atKey hat2
        obtain ⟨v, hfv⟩ := Option.isSome_iff_exists.1 hfk
        have hcv : c = v := by
          have h1 := HAT.out k v hfv (.held v)
          rw [hat2] at h1
          unfold HR at hv
          injection hv with hv
          injection hv with hv
          rw [← hv] at h1
          injection h1
        subst hcv
        obtain ⟨t, htm, htd, rfl, hct⟩ := (filF_iff hf.tw.nodup).1 hfv
        have hB2 : Below r w w2 := hB.trans ⟨hg2.os, hg2.tape, hg2.output, hg2.size, fun j hj => hg2.block j (by have := hB.size; have := HRS.out; omega) (fun e => by injection e with e; omega)⟩
        have hi := hf.tw.ats t htm htd
        obtain ⟨u1, hblk1, _⟩ := file_at H.out hi
        obtain ⟨g, hg⟩ : ∃ g, A.φ[t.at_]?.getD 0 = g := ⟨_, rfl⟩
        unfold fptr at hct
        rw [hg] at hblk1 hct
        subst hct
        obtain ⟨T, hT⟩ : ∃ T : ByteArray, (⟨(fAt d t.at_).now.toArray⟩ : ByteArray) = T := ⟨_, rfl⟩
        have hTs : (nowAt d t.at_).length = T.size := by rw [← hT]; rfl
        have hblk2 := hblk1.below hB2 (by have := hblk1.lt; have := HRS.out; omega)
        have c0 : w2.cell? ⟨g, 0, none⟩ = some (.string T) := by rw [← hT]; exact hblk2.cell 0
        have hnext : seenL d (fun z => left (.string z) && !(Lit.string z).sameKey (.string t.path)) d.things = m + T.size := by
          rw [seenL_one (left := fun z => left (.string z)) hf.tw.nodup htm htd hlk (by simp [same_str.2 rfl]) (fun z hz => by
            have : (Lit.string z).sameKey (.string t.path) = false := by
              cases e : (Lit.string z).sameKey (.string t.path) with
              | false => rfl
              | true => exact absurd (same_str.1 e) hz
            simp [this]), HSUM.out, hTs]
        have hle : m + T.size ≤ 4611686018427387904 := by rw [← hnext]; exact Nat.le_trans seenL_le hu
        have HN := Lib.hid hnext
        clear hnext hblk1 hblk2 hT hTs hg hi htm htd hfv hfk hv hat2 hkx e1 hlk hg2 hrg
        go_wp2_with fail
        go_roundg (gk - 1)
        case measure => omega
        case rel => exact ⟨_, cnt2, m + T.size, by simp, HN.out, by omega, hrg2, hB2⟩
end
end Go.Proofs.YtfpgbhimgfdddaaGreatDoor
