/- The walks of the document's Show: hex, stretches, text. -/
import Derived.Test.YtlmnincllndpnaaRefParse
import Derived.Test.YtlmnincllndpnaaShow
namespace Go.Proofs.Ytlmnincllndpnaa
open Go.RowKit
attribute [local go_sem ↓] Go.wp_at_zero Go.wp_at_succ
attribute [local go_sem] Later.cell Later.frozen
attribute [-go_sem] loadCells

set_option maxHeartbeats 1000000 in
theorem rhex_calls (b : Nat) (hb : b < 256) (w : World) :
    Calls Try.prog 54 #[.int .i64 b] w fun e w' => e = .returned (.string ⟨(hexT b).toArray⟩) ∧ Below w.heap.size w w' := by
  have hfin : digits.extract (b / 16) (b / 16 + 1) ++ digits.extract (b % 16) (b % 16 + 1) = ⟨(hexT b).toArray⟩ := by
    rw [digits_at _ (by omega), digits_at _ (by omega)]
    rfl
  have HF := Lib.hid hfin
  clear hfin
  go_enter Try.func54, Try.ntmps54
  go_wp2_with fail
  have z1 : IntKind.i64.wrap ((b : Int) / 16 + 1) = (b : Int) / 16 + 1 := IntWalk.i64_in _ (by omega)
  have z2 : (0 : Int) ≤ (b : Int) / 16 + 1 := by omega
  have z3 : ((b : Int) / 16 + 1).toNat = b / 16 + 1 := by omega
  have z4 : ((b : Int) / 16).toNat = b / 16 := by omega
  have z5 : (0 : Int) ≤ (b : Int) / 16 := by omega
  have y1 : IntKind.i64.wrap ((b : Int) % 16 + 1) = (b : Int) % 16 + 1 := IntWalk.i64_in _ (by omega)
  have y2 : (0 : Int) ≤ (b : Int) % 16 + 1 := by omega
  have y3 : ((b : Int) % 16 + 1).toNat = b % 16 + 1 := by omega
  have y4 : ((b : Int) % 16).toNat = b % 16 := by omega
  have y5 : (0 : Int) ≤ (b : Int) % 16 := by omega
  have x1 : (b : Int) / 16 + 1 ≤ 16 := by omega
  have x2 : (b : Int) % 16 + 1 ≤ 16 := by omega
  go_quiet (fail)
  clear z1 z2 z3 z4 z5 y1 y2 y3 y4 y5 x1 x2
  go_wp2_with fail
  go_ret
  exact ⟨congrArg (fun s => Ending.returned (Value.string s)) HF.out, below_drewN (Below.refl _ _) _⟩

/-- What is still to be written behind a text, with a comma ahead of each part but the first. -/
def tailT (first : Bool) : List (List UInt8) → List UInt8
  | [] => []
  | p :: ps => (if first then p else 44 :: p) ++ tailT false ps
theorem tailT_join : ∀ ps : List (List UInt8), tailT true ps = Lib.join ps [44]
  | [] => rfl
  | [p] => by simp [tailT, Lib.join_one]
  | p :: q :: r => by
    have ih := tailT_join (q :: r)
    have e : Lib.join (p :: q :: r) [44] = p ++ [44] ++ Lib.join (q :: r) [44] := by
      unfold Lib.join
      simp [List.intercalate]
    rw [e, ← ih]
    simp [tailT]
/-- The text so far, with m to come. -/
def StrRel (v b : Nat) (l : List UInt8) : Prop := l ++ tailT (decide (l.length ≤ 1)) (scanAll v b) ++ [93] = strT v ∧ 1 ≤ l.length ∧ l.length ≤ 2000
theorem strRel_start (v : Nat) : StrRel v 0 [91] := by
  refine ⟨?_, by simp, by simp⟩
  simp only [List.length_singleton, Nat.le_refl, decide_true, tailT_join]
  rfl
theorem StrRel.no {v b : Nat} {l : List UInt8} (h : StrRel v b l) (hb : b < 256) (hv : v.testBit b = false) : StrRel v (b + 1) l := by
  refine ⟨?_, h.2⟩
  rw [← scan_no v b hb hv]; exact h.1
theorem StrRel.yes {v b : Nat} {l : List UInt8} (h : StrRel v b l) (hb : b < 256) (hv : v.testBit b = true) : StrRel v (upTo v (255 - b) b + 1) ((if l.length ≤ 1 then l else l ++ [44]) ++ hexT b ++ 45 :: hexT (upTo v (255 - b) b)) := by
  have h1 := h.1
  rw [scan_yes v b hb hv, tailT] at h1
  have e : (if l.length ≤ 1 then l else l ++ [44]) ++ hexT b ++ 45 :: hexT (upTo v (255 - b) b) = l ++ (if (decide (l.length ≤ 1)) = true then partT b (upTo v (255 - b) b) else 44 :: partT b (upTo v (255 - b) b)) := by
    by_cases hl : l.length ≤ 1
    · simp [hl, partT]
    · simp [hl, partT]
  rw [e]
  have hlen := strT_len v
  have hpl := part_len b (upTo v (255 - b) b)
  have hl1 : 1 < (l ++ (if (decide (l.length ≤ 1)) = true then partT b (upTo v (255 - b) b) else 44 :: partT b (upTo v (255 - b) b))).length := by
    rw [List.length_append]
    have := h.2.1
    split <;> simp [hpl] <;> omega
  refine ⟨?_, by omega, ?_⟩
  · have hdf : decide ((l ++ (if (decide (l.length ≤ 1)) = true then partT b (upTo v (255 - b) b) else 44 :: partT b (upTo v (255 - b) b))).length ≤ 1) = false := decide_eq_false (by omega)
    rw [hdf, ← h1]
    simp only [List.append_assoc]
  · rw [← h1] at hlen
    simp only [List.length_append] at hlen ⊢
    omega
/-- The end of a stretch, found byte by byte. -/
theorem upTo_step (v n b : Nat) (h : b + 1 < 256) (hn : n = 255 - b) (hv : v.testBit (b + 1) = true) : upTo v n b = upTo v (255 - (b + 1)) (b + 1) := by
  subst hn
  rw [show 255 - b = (255 - (b + 1)) + 1 by omega, upTo, if_pos ⟨by omega, hv⟩]
theorem upTo_end (v n b : Nat) (h : b = 255 ∨ v.testBit (b + 1) = false) : upTo v n b = b := by
  cases n with
  | zero => rfl
  | succ n =>
    rw [upTo, if_neg]
    rintro ⟨h1, h2⟩
    rcases h with h | h
    · omega
    · rw [h] at h2; cases h2

set_option maxRecDepth 100000 in
set_option maxHeartbeats 1000000 in
theorem rstretches_calls (x : RN) (w : World) :
    Calls Try.prog 46 #[.agg x.row] w fun e w' => e = .returned (.string ⟨(strT x.S).toArray⟩) ∧ Below w.heap.size w w' := by
  go_enter Try.func46, Try.ntmps46
  go_upto_region 1 with fail
  obtain ⟨w1, hw1⟩ : ∃ w1, w.alloc (.cells x.row 68) = w1 := ⟨_, rfl⟩
  have hn1 : Blk w1 w.heap.size 68 x.row := by rw [← hw1]; exact Blk.new _ _ _
  have hb1 : Below w.heap.size w w1 := by rw [← hw1]; exact (Below.refl _ _).alloc (Nat.le_refl _) _
  have hz1 : w.heap.size < w1.heap.size := hn1.lt
  rw [hw1]
  clear hw1
  obtain ⟨p, hp⟩ : ∃ p, w.heap.size = p := ⟨_, rfl⟩
  rw [hp] at hn1 hb1 hz1 ⊢
  have HP := Lib.hid hp
  clear hp
  go_upto_block 0 with fail
  go_cut [3] (fun s3 wz => s3 = .string ⟨((strT x.S).dropLast).toArray⟩ ∧ Below p w wz)
  case first =>
    go_wp2
    go_loopg [3, 4] 256 (fun g s3 s4 wr => ∃ (b : Nat) (sb : ByteArray), b + g = 256 ∧ s4 = .int .i64 (b : Int) ∧ s3 = .string sb ∧ StrRel x.S b sb.data.toList ∧ sb.size ≤ 2000 ∧ Below p w wr ∧ Blk wr p 68 x.row)
    case atStart => exact ⟨0, _, rfl, rfl, rfl, strRel_start x.S, by decide, hb1, hn1⟩
    case round =>
      obtain ⟨b, sb, hbg, rfl, rfl, hrel, hsl, hbr, hnr⟩ := hrel
      have HBG := Lib.hid hbg
      have HREL := Lib.hid hrel
      clear hrel
      by_cases hb : b < 256
      · have cb : wr.cell? ⟨p, 1 + b, none⟩ = some (.bool (x.S.testBit b)) := (hnr.cell _).trans (nodeRow_bit _ _ _ _ b hb)
        have hge : ∀ k, k < 256 → wr.cell? ⟨p, 1 + k, none⟩ = some (.bool (x.S.testBit k)) := fun k hk => (hnr.cell _).trans (nodeRow_bit _ _ _ _ k hk)
        have HGE := Lib.hid hge
        have eb : decide ((b : Int) < 256) = true := by simp; omega
        clear hge hbg
        cases hv : x.S.testBit b with
        | false =>
          rw [hv] at cb
          have HV := Lib.hid hv
          clear hv
          go_wp2
          go_roundg (256 - (b + 1))
          case measure => have := HBG.out; omega
          case rel => exact ⟨b + 1, sb, by omega, by go_num, rfl, HREL.out.no hb HV.out, hsl, hbr, hnr⟩
        | true =>
          rw [hv] at cb
          have HV := Lib.hid hv
          clear hv
          obtain ⟨up, hup⟩ : ∃ up, upTo x.S (255 - b) b = up := ⟨_, rfl⟩
          have hupb := upTo_le x.S (255 - b) b
          rw [hup] at hupb
          have hu1 := hupb.1
          have hu2 := hupb.2 (by omega)
          have HUP := Lib.hid hup
          clear hup hupb
          go_upto_block 2 with fail
          go_cut [4] (fun s4 wz => s4 = .int .i64 ((up + 1 : Nat) : Int) ∧ wz = wr)
          case first =>
            go_wp2
            go_loopg [4] (257 - b) (fun g s4 wz => ∃ m : Nat, m + g = 257 ∧ s4 = .int .i64 (m : Int) ∧ wz = wr ∧ m ≤ 256 ∧ (m = b ∨ (b < m ∧ up = upTo x.S (255 - (m - 1)) (m - 1))))
            case atStart => exact ⟨b, by omega, rfl, rfl, by omega, .inl rfl⟩
            case round =>
              obtain ⟨m, hmg, rfl, rfl, hm256, hcase⟩ := hrel
              have HMG := Lib.hid hmg
              clear hmg
              by_cases hm : m < 256
              · have cm := HGE.out m hm
                cases hvm : x.S.testBit m with
                | true =>
                  rw [hvm] at cm
                  have HC := Lib.hid hcase
                  have HVM := Lib.hid hvm
                  clear hcase hvm cb
                  go_wp2
                  go_roundg (257 - (m + 1))
                  case measure => have := HMG.out; omega
                  case rel =>
                    refine ⟨m + 1, by omega, by go_num, rfl, by omega, .inr ?_⟩
                    rcases HC.out with rfl | ⟨h1, h2⟩
                    · exact ⟨by omega, HUP.out.symm⟩
                    · refine ⟨by omega, ?_⟩
                      rw [h2, upTo_step x.S _ (m - 1) (by omega) rfl (by rw [show m - 1 + 1 = m by omega]; exact HVM.out)]
                      rw [show m - 1 + 1 = m by omega, show m + 1 - 1 = m by omega]
                | false =>
                  rw [hvm] at cm
                  have hfin : m = up + 1 := by
                    rcases hcase with rfl | ⟨h1, h2⟩
                    · rw [HV.out] at hvm; cases hvm
                    · rw [upTo_end x.S _ (m - 1) (.inr (by rw [show m - 1 + 1 = m by omega]; exact hvm))] at h2
                      omega
                  have HF := Lib.hid hfin
                  clear hcase hvm cb hfin
                  go_wp2
                  go_meet
                  exact ⟨vi (by rw [HF.out]), rfl⟩
              · have hfin : m = up + 1 := by
                  rcases hcase with rfl | ⟨h1, h2⟩
                  · omega
                  · rw [upTo_end x.S _ (m - 1) (.inl (by omega))] at h2
                    omega
                have HF := Lib.hid hfin
                clear hcase cb hfin
                go_wp2
                go_meet
                exact ⟨vi (by rw [HF.out]), rfl⟩
          case rest =>
            obtain ⟨rfl, rfl⟩ := hcut
            have hyes := HREL.out.yes hb HV.out
            rw [HUP.out] at hyes
            have HY := Lib.hid hyes
            have hs0 : sb.data.toList.length = sb.size := rfl
            clear hyes cb HREL
            have hp2 : p ≤ wc.heap.size := by have := hnr.lt; omega
            by_cases hl1 : sb.size ≤ 1
            · have hl1' : sb.data.toList.length ≤ 1 := hl1
              have HL1 := Lib.hid hl1'
              clear hs0 hl1'
              go_wp2_with fail
              refine (rhex_calls b hb _).mono ?_
              rintro e w2 ⟨rfl, hb2⟩
              have e1 : ((up + 1 : Nat) : Int) - 1 = (up : Int) := by omega
              obtain ⟨h1, hh1⟩ : ∃ h1 : ByteArray, (⟨(hexT b).toArray⟩ : ByteArray) = h1 := ⟨_, rfl⟩
              have hz1 : h1.size ≤ 2 := by rw [← hh1]; exact Nat.le_refl 2
              rw [hh1]
              have HH1 := Lib.hid hh1
              clear hh1
              go_wp2_with fail
              refine (rhex_calls up (by omega) _).mono ?_
              rintro e w3 ⟨rfl, hb3⟩
              obtain ⟨h2, hh2⟩ : ∃ h1 : ByteArray, (⟨(hexT up).toArray⟩ : ByteArray) = h1 := ⟨_, rfl⟩
              have hz2 : h2.size ≤ 2 := by rw [← hh2]; exact Nat.le_refl 2
              rw [hh2]
              have HH2 := Lib.hid hh2
              clear hh2 e1
              have hbz := hbr.trans ((hb2.mono (B' := p) (by omega)).trans (hb3.mono (by have := hb2.size; omega)))
              have hnz := (hnr.below hb2 hnr.lt).below hb3 (by have := hb2.size; have := hnr.lt; omega)
              go_wp2_with fail
              go_roundg (256 - (up + 1))
              case measure => have := HBG.out; omega
              case rel =>
                have hy := HY.out
                rw [if_pos HL1.out] at hy
                have e1 : (hexT b) = h1.data.toList := by rw [← HH1.out]
                have e2 : (hexT up) = h2.data.toList := by rw [← HH2.out]
                rw [e1, e2] at hy
                refine ⟨up + 1, _, by omega, by go_num, rfl, ?_, ?_, hbz, hnz⟩
                · simpa using hy
                · have := hy.2.2
                  have s1 : sb.data.toList.length = sb.size := rfl
                  have s2 : h1.data.toList.length = h1.size := rfl
                  have s3 : h2.data.toList.length = h2.size := rfl
                  simp only [List.length_append, List.length_cons, List.length_nil, s1, s2, s3] at this
                  simp only [ByteArray.size_append, show (⟨#[44]⟩ : ByteArray).size = 1 from rfl, show (⟨#[45]⟩ : ByteArray).size = 1 from rfl]
                  omega
            · have hl1' : ¬ sb.data.toList.length ≤ 1 := hl1
              have HL1 := Lib.hid hl1'
              clear hs0 hl1'
              go_wp2_with fail
              refine (rhex_calls b hb _).mono ?_
              rintro e w2 ⟨rfl, hb2⟩
              have e1 : ((up + 1 : Nat) : Int) - 1 = (up : Int) := by omega
              obtain ⟨h1, hh1⟩ : ∃ h1 : ByteArray, (⟨(hexT b).toArray⟩ : ByteArray) = h1 := ⟨_, rfl⟩
              have hz1 : h1.size ≤ 2 := by rw [← hh1]; exact Nat.le_refl 2
              rw [hh1]
              have HH1 := Lib.hid hh1
              clear hh1
              go_wp2_with fail
              refine (rhex_calls up (by omega) _).mono ?_
              rintro e w3 ⟨rfl, hb3⟩
              obtain ⟨h2, hh2⟩ : ∃ h1 : ByteArray, (⟨(hexT up).toArray⟩ : ByteArray) = h1 := ⟨_, rfl⟩
              have hz2 : h2.size ≤ 2 := by rw [← hh2]; exact Nat.le_refl 2
              rw [hh2]
              have HH2 := Lib.hid hh2
              clear hh2 e1
              have hbz := hbr.trans ((hb2.mono (B' := p) (by omega)).trans (hb3.mono (by have := hb2.size; omega)))
              have hnz := (hnr.below hb2 hnr.lt).below hb3 (by have := hb2.size; have := hnr.lt; omega)
              go_wp2_with fail
              go_roundg (256 - (up + 1))
              case measure => have := HBG.out; omega
              case rel =>
                have hy := HY.out
                rw [if_neg HL1.out] at hy
                have e1 : (hexT b) = h1.data.toList := by rw [← HH1.out]
                have e2 : (hexT up) = h2.data.toList := by rw [← HH2.out]
                rw [e1, e2] at hy
                refine ⟨up + 1, _, by omega, by go_num, rfl, ?_, ?_, hbz, hnz⟩
                · simpa using hy
                · have := hy.2.2
                  have s1 : sb.data.toList.length = sb.size := rfl
                  have s2 : h1.data.toList.length = h1.size := rfl
                  have s3 : h2.data.toList.length = h2.size := rfl
                  simp only [List.length_append, List.length_cons, List.length_nil, s1, s2, s3] at this
                  simp only [ByteArray.size_append, show (⟨#[44]⟩ : ByteArray).size = 1 from rfl, show (⟨#[45]⟩ : ByteArray).size = 1 from rfl]
                  omega
      · have hb256 : b = 256 := by omega
        subst hb256
        have hr := HREL.out
        clear hbg
        have hfin : sb.data.toList = (strT x.S).dropLast := by
          have h1 := hr.1
          rw [scan_end x.S 256 (by omega)] at h1
          rw [← h1]
          simp [tailT]
        have HF := Lib.hid hfin
        clear hfin hr
        go_wp2
        go_meet
        exact ⟨congrArg Value.string (mk_str HF.out), hbr⟩
  case rest =>
    obtain ⟨rfl, hbz⟩ := hcut
    have hlen := strT_len x.S
    have hfin : (strT x.S).dropLast ++ [93] = strT x.S := by
      unfold strT
      rw [← List.cons_append, List.dropLast_concat]
    obtain ⟨T, hT⟩ : ∃ T : ByteArray, (⟨((strT x.S).dropLast).toArray⟩ : ByteArray) = T := ⟨_, rfl⟩
    have hTz : T.size ≤ 2000 := by
      rw [← hT]
      have : (⟨((strT x.S).dropLast).toArray⟩ : ByteArray).size = (strT x.S).dropLast.length := by simp [ByteArray.size]
      rw [this, List.length_dropLast]
      omega
    rw [hT]
    have HT := Lib.hid hT
    have HF := Lib.hid hfin
    clear hT hfin hlen
    go_wp2_with fail
    go_ret
    refine ⟨congrArg (fun s => Ending.returned (Value.string s)) (mk_str ?_), ?_⟩
    · rw [← HT.out]
      simpa using HF.out
    · rw [HP.out]; exact hbz

def TextOk (u : Tr) : Prop := ∀ (w : World) (t : Nat) (ns : List RN) (n : Nat), RefTree w t ns → NodeIs ns u n → (showT u).length ≤ 1000000000 →
  Calls Try.prog 34 #[.pointer (some ⟨t, 0, none⟩), .int .i64 n] w fun e w' => e = .returned (.string ⟨(showT u).toArray⟩) ∧ Below w.heap.size w w'
theorem row_cell {w : World} {p : Nat} {x : RN} (h : Blk w p 68 x.row) : w.cell? ⟨p, 0, none⟩ = some (.int .i64 x.k) ∧ w.cell? ⟨p, 257, none⟩ = some (.int .i64 x.a) ∧ w.cell? ⟨p, 258, none⟩ = some (.int .i64 x.b) := by
  refine ⟨(h.cell 0).trans (nodeRow_get _ _ _ _ 0 (by omega)), (h.cell 257).trans ((nodeRow_get _ _ _ _ 257 (by omega)).trans ?_), (h.cell 258).trans ((nodeRow_get _ _ _ _ 258 (by omega)).trans ?_)⟩ <;> simp [rcell]
theorem txt_cat (l m : List UInt8) (A B : ByteArray) (ha : (⟨l.toArray⟩ : ByteArray) = A) (hb : (⟨m.toArray⟩ : ByteArray) = B) : A.data.toList = l ∧ B.data.toList = m := by
  subst ha hb
  exact ⟨rfl, rfl⟩

set_option maxRecDepth 100000 in
set_option maxHeartbeats 1000000 in
theorem rtext_empty : TextOk .empty := by
  intro w t ns n htree hnode hz
  obtain ⟨base, v, s, j, d, h1, h2⟩ := htree
  have hx : ns[n]? = some ⟨0, 0, 0, 0⟩ := hnode
  obtain ⟨g, cap, rfl, hlr, hgl⟩ := node_load h2 hx
  have htree : RefTree w t ns := ⟨base, _, s, j, d, h1, h2⟩
  have hnl := (List.getElem?_eq_some_iff.1 hx).1
  obtain ⟨w1, hrow, hb1, hn1⟩ := node_made w ⟨0, 0, 0, 0⟩
  have c0 : _ = some (Value.slice (some ⟨g, 0, none⟩) ns.length cap) := h1.cell 0
  have hrl : (RN.row ⟨0, 0, 0, 0⟩).size = 259 := RN.size _
  have hci : (n : Int) < (ns.length : Int) := by omega
  have HX := Lib.hid hx
  clear hx
  go_enter Try.func34, Try.ntmps34
  go_upto_region 2 with fail
  obtain ⟨k0, k1, k2⟩ := row_cell hn1
  clear hrow hlr c0 hrl
  go_wp2_with fail
  go_ret
  exact ⟨rfl, hb1⟩

set_option maxRecDepth 100000 in
set_option maxHeartbeats 1000000 in
theorem rtext_cls (S : Nat) : TextOk (.cls S) := by
  intro w t ns n htree hnode hz
  obtain ⟨base, v, s, j, d, h1, h2⟩ := htree
  obtain ⟨_, hx⟩ := hnode
  obtain ⟨g, cap, rfl, hlr, hgl⟩ := node_load h2 hx
  have htree : RefTree w t ns := ⟨base, _, s, j, d, h1, h2⟩
  have hnl := (List.getElem?_eq_some_iff.1 hx).1
  obtain ⟨w1, hrow, hb1, hn1⟩ := node_made w ⟨1, S, 0, 0⟩
  have c0 : _ = some (Value.slice (some ⟨g, 0, none⟩) ns.length cap) := h1.cell 0
  have hrl : (RN.row ⟨1, S, 0, 0⟩).size = 259 := RN.size _
  have hci : (n : Int) < (ns.length : Int) := by omega
  have HX := Lib.hid hx
  clear hx
  go_enter Try.func34, Try.ntmps34
  go_upto_region 2 with fail
  obtain ⟨k0, k1, k2⟩ := row_cell hn1
  clear hrow hlr c0 hrl
  have hlr2 : (loadCells ⟨w.heap.size, 0, none⟩ 259).run Try.prog w1 = .ok (RN.row ⟨1, S, 0, 0⟩) w1 := lc_row hn1 (RN.size _)
  go_wp2_with fail
  refine (rstretches_calls ⟨1, S, 0, 0⟩ _).mono ?_
  rintro e w2 ⟨rfl, hb2⟩
  go_wp2_with fail
  go_ret
  exact ⟨rfl, then_ hb1 hb2⟩

set_option maxRecDepth 100000 in
set_option maxHeartbeats 1000000 in
theorem rtext_star (a : Tr) (iha : TextOk a) : TextOk (.star a) := by
  have IHA := Lib.hid iha
  clear iha
  intro w t ns n htree hnode hz
  obtain ⟨base, v, s, j, d, h1, h2⟩ := htree
  obtain ⟨i, hx, ha⟩ := hnode
  obtain ⟨g, cap, rfl, hlr, hgl⟩ := node_load h2 hx
  have htree : RefTree w t ns := ⟨base, _, s, j, d, h1, h2⟩
  have hnl := (List.getElem?_eq_some_iff.1 hx).1
  obtain ⟨w1, hrow, hb1, hn1⟩ := node_made w ⟨4, 0, i, 0⟩
  have c0 : _ = some (Value.slice (some ⟨g, 0, none⟩) ns.length cap) := h1.cell 0
  have hrl : (RN.row ⟨4, 0, i, 0⟩).size = 259 := RN.size _
  have hci : (n : Int) < (ns.length : Int) := by omega
  have HX := Lib.hid hx
  clear hx
  go_enter Try.func34, Try.ntmps34
  go_upto_region 2 with fail
  obtain ⟨k0, k1, k2⟩ := row_cell hn1
  clear hrow hlr c0 hrl
  have hza : (showT a).length ≤ 1000000000 := by simp [showT] at hz; omega
  have hcall := IHA.out w1 t ns i (htree.below hb1) ha hza
  obtain ⟨A, hA⟩ : ∃ A : ByteArray, (⟨(showT a).toArray⟩ : ByteArray) = A := ⟨_, rfl⟩
  have hAz : A.size ≤ 1000000000 := by rw [← hA]; simpa [ByteArray.size] using hza
  rw [hA] at hcall
  have HC := Lib.hid hcall
  have HA := Lib.hid hA
  clear hcall hA hza
  go_wp2_with fail
  refine HC.out.mono ?_
  rintro e w2 ⟨rfl, hb2⟩
  have k0' := later (hb2.mono (Nat.le_refl _)) k0
  go_wp2_with fail
  go_ret
  refine ⟨congrArg (fun s => Ending.returned (Value.string s)) (mk_str ?_), then_ hb1 hb2⟩
  rw [← HA.out]
  simp [showT]

set_option maxRecDepth 100000 in
set_option maxHeartbeats 1000000 in
theorem rtext_plus (a : Tr) (iha : TextOk a) : TextOk (.plus a) := by
  have IHA := Lib.hid iha
  clear iha
  intro w t ns n htree hnode hz
  obtain ⟨base, v, s, j, d, h1, h2⟩ := htree
  obtain ⟨i, hx, ha⟩ := hnode
  obtain ⟨g, cap, rfl, hlr, hgl⟩ := node_load h2 hx
  have htree : RefTree w t ns := ⟨base, _, s, j, d, h1, h2⟩
  have hnl := (List.getElem?_eq_some_iff.1 hx).1
  obtain ⟨w1, hrow, hb1, hn1⟩ := node_made w ⟨5, 0, i, 0⟩
  have c0 : _ = some (Value.slice (some ⟨g, 0, none⟩) ns.length cap) := h1.cell 0
  have hrl : (RN.row ⟨5, 0, i, 0⟩).size = 259 := RN.size _
  have hci : (n : Int) < (ns.length : Int) := by omega
  have HX := Lib.hid hx
  clear hx
  go_enter Try.func34, Try.ntmps34
  go_upto_region 2 with fail
  obtain ⟨k0, k1, k2⟩ := row_cell hn1
  clear hrow hlr c0 hrl
  have hza : (showT a).length ≤ 1000000000 := by simp [showT] at hz; omega
  have hcall := IHA.out w1 t ns i (htree.below hb1) ha hza
  obtain ⟨A, hA⟩ : ∃ A : ByteArray, (⟨(showT a).toArray⟩ : ByteArray) = A := ⟨_, rfl⟩
  have hAz : A.size ≤ 1000000000 := by rw [← hA]; simpa [ByteArray.size] using hza
  rw [hA] at hcall
  have HC := Lib.hid hcall
  have HA := Lib.hid hA
  clear hcall hA hza
  go_wp2_with fail
  refine HC.out.mono ?_
  rintro e w2 ⟨rfl, hb2⟩
  have k0' := later (hb2.mono (Nat.le_refl _)) k0
  go_wp2_with fail
  go_ret
  refine ⟨congrArg (fun s => Ending.returned (Value.string s)) (mk_str ?_), then_ hb1 hb2⟩
  rw [← HA.out]
  simp [showT]

set_option maxRecDepth 100000 in
set_option maxHeartbeats 1000000 in
theorem rtext_quest (a : Tr) (iha : TextOk a) : TextOk (.quest a) := by
  have IHA := Lib.hid iha
  clear iha
  intro w t ns n htree hnode hz
  obtain ⟨base, v, s, j, d, h1, h2⟩ := htree
  obtain ⟨i, hx, ha⟩ := hnode
  obtain ⟨g, cap, rfl, hlr, hgl⟩ := node_load h2 hx
  have htree : RefTree w t ns := ⟨base, _, s, j, d, h1, h2⟩
  have hnl := (List.getElem?_eq_some_iff.1 hx).1
  obtain ⟨w1, hrow, hb1, hn1⟩ := node_made w ⟨6, 0, i, 0⟩
  have c0 : _ = some (Value.slice (some ⟨g, 0, none⟩) ns.length cap) := h1.cell 0
  have hrl : (RN.row ⟨6, 0, i, 0⟩).size = 259 := RN.size _
  have hci : (n : Int) < (ns.length : Int) := by omega
  have HX := Lib.hid hx
  clear hx
  go_enter Try.func34, Try.ntmps34
  go_upto_region 2 with fail
  obtain ⟨k0, k1, k2⟩ := row_cell hn1
  clear hrow hlr c0 hrl
  have hza : (showT a).length ≤ 1000000000 := by simp [showT] at hz; omega
  have hcall := IHA.out w1 t ns i (htree.below hb1) ha hza
  obtain ⟨A, hA⟩ : ∃ A : ByteArray, (⟨(showT a).toArray⟩ : ByteArray) = A := ⟨_, rfl⟩
  have hAz : A.size ≤ 1000000000 := by rw [← hA]; simpa [ByteArray.size] using hza
  rw [hA] at hcall
  have HC := Lib.hid hcall
  have HA := Lib.hid hA
  clear hcall hA hza
  go_wp2_with fail
  refine HC.out.mono ?_
  rintro e w2 ⟨rfl, hb2⟩
  have k0' := later (hb2.mono (Nat.le_refl _)) k0
  go_wp2_with fail
  go_ret
  refine ⟨congrArg (fun s => Ending.returned (Value.string s)) (mk_str ?_), then_ hb1 hb2⟩
  rw [← HA.out]
  simp [showT]

set_option maxRecDepth 100000 in
set_option maxHeartbeats 1000000 in
theorem rtext_cat (a b : Tr) (iha : TextOk a) (ihb : TextOk b) : TextOk (.cat a b) := by
  have IHA := Lib.hid iha
  have IHB := Lib.hid ihb
  clear iha ihb
  intro w t ns n htree hnode hz
  obtain ⟨base, v, s, j, d, h1, h2⟩ := htree
  obtain ⟨i, i', hx, ha, hb⟩ := hnode
  obtain ⟨g, cap, rfl, hlr, hgl⟩ := node_load h2 hx
  have htree : RefTree w t ns := ⟨base, _, s, j, d, h1, h2⟩
  have hnl := (List.getElem?_eq_some_iff.1 hx).1
  obtain ⟨w1, hrow, hb1, hn1⟩ := node_made w ⟨2, 0, i, i'⟩
  have c0 : _ = some (Value.slice (some ⟨g, 0, none⟩) ns.length cap) := h1.cell 0
  have hrl : (RN.row ⟨2, 0, i, i'⟩).size = 259 := RN.size _
  have hci : (n : Int) < (ns.length : Int) := by omega
  have HX := Lib.hid hx
  clear hx
  go_enter Try.func34, Try.ntmps34
  go_upto_region 2 with fail
  obtain ⟨k0, k1, k2⟩ := row_cell hn1
  clear hrow hlr c0 hrl
  have hza : (showT a).length ≤ 1000000000 := by simp [showT] at hz; omega
  have hzb : (showT b).length ≤ 1000000000 := by simp [showT] at hz; omega
  have hcall := IHA.out w1 t ns i (htree.below hb1) ha hza
  obtain ⟨A, hA⟩ : ∃ A : ByteArray, (⟨(showT a).toArray⟩ : ByteArray) = A := ⟨_, rfl⟩
  have hAz : A.size ≤ 1000000000 := by rw [← hA]; simpa [ByteArray.size] using hza
  rw [hA] at hcall
  have HC := Lib.hid hcall
  have HA := Lib.hid hA
  clear hcall hA
  go_wp2_with fail
  refine HC.out.mono ?_
  rintro e w2 ⟨rfl, hb2⟩
  have k0' := later hb2 k0
  have k2' := later hb2 k2
  clear k0 k1 k2
  have hcall := IHB.out w2 t ns i' ((htree.below hb1).below hb2) hb hzb
  obtain ⟨B, hB⟩ : ∃ A : ByteArray, (⟨(showT b).toArray⟩ : ByteArray) = A := ⟨_, rfl⟩
  have hBz : B.size ≤ 1000000000 := by rw [← hB]; simpa [ByteArray.size] using hzb
  rw [hB] at hcall
  have HC2 := Lib.hid hcall
  have HB := Lib.hid hB
  clear hcall hB hza hzb
  go_wp2_with fail
  refine HC2.out.mono ?_
  rintro e w3 ⟨rfl, hb3⟩
  have k0 := later hb3 k0'
  go_wp2_with fail
  go_ret
  refine ⟨congrArg (fun s => Ending.returned (Value.string s)) (mk_str ?_), then_ (then_ hb1 hb2) hb3⟩
  rw [← HA.out, ← HB.out]
  simp [showT]

set_option maxRecDepth 100000 in
set_option maxHeartbeats 1000000 in
theorem rtext_alt (a b : Tr) (iha : TextOk a) (ihb : TextOk b) : TextOk (.alt a b) := by
  have IHA := Lib.hid iha
  have IHB := Lib.hid ihb
  clear iha ihb
  intro w t ns n htree hnode hz
  obtain ⟨base, v, s, j, d, h1, h2⟩ := htree
  obtain ⟨i, i', hx, ha, hb⟩ := hnode
  obtain ⟨g, cap, rfl, hlr, hgl⟩ := node_load h2 hx
  have htree : RefTree w t ns := ⟨base, _, s, j, d, h1, h2⟩
  have hnl := (List.getElem?_eq_some_iff.1 hx).1
  obtain ⟨w1, hrow, hb1, hn1⟩ := node_made w ⟨3, 0, i, i'⟩
  have c0 : _ = some (Value.slice (some ⟨g, 0, none⟩) ns.length cap) := h1.cell 0
  have hrl : (RN.row ⟨3, 0, i, i'⟩).size = 259 := RN.size _
  have hci : (n : Int) < (ns.length : Int) := by omega
  have HX := Lib.hid hx
  clear hx
  go_enter Try.func34, Try.ntmps34
  go_upto_region 2 with fail
  obtain ⟨k0, k1, k2⟩ := row_cell hn1
  clear hrow hlr c0 hrl
  have hza : (showT a).length ≤ 1000000000 := by simp [showT] at hz; omega
  have hzb : (showT b).length ≤ 1000000000 := by simp [showT] at hz; omega
  have hcall := IHA.out w1 t ns i (htree.below hb1) ha hza
  obtain ⟨A, hA⟩ : ∃ A : ByteArray, (⟨(showT a).toArray⟩ : ByteArray) = A := ⟨_, rfl⟩
  have hAz : A.size ≤ 1000000000 := by rw [← hA]; simpa [ByteArray.size] using hza
  rw [hA] at hcall
  have HC := Lib.hid hcall
  have HA := Lib.hid hA
  clear hcall hA
  go_wp2_with fail
  refine HC.out.mono ?_
  rintro e w2 ⟨rfl, hb2⟩
  have k0' := later hb2 k0
  have k2' := later hb2 k2
  clear k0 k1 k2
  have hcall := IHB.out w2 t ns i' ((htree.below hb1).below hb2) hb hzb
  obtain ⟨B, hB⟩ : ∃ A : ByteArray, (⟨(showT b).toArray⟩ : ByteArray) = A := ⟨_, rfl⟩
  have hBz : B.size ≤ 1000000000 := by rw [← hB]; simpa [ByteArray.size] using hzb
  rw [hB] at hcall
  have HC2 := Lib.hid hcall
  have HB := Lib.hid hB
  clear hcall hB hza hzb
  go_wp2_with fail
  refine HC2.out.mono ?_
  rintro e w3 ⟨rfl, hb3⟩
  have k0 := later hb3 k0'
  go_wp2_with fail
  go_ret
  refine ⟨congrArg (fun s => Ending.returned (Value.string s)) (mk_str ?_), then_ (then_ hb1 hb2) hb3⟩
  rw [← HA.out, ← HB.out]
  simp [showT]

theorem rtext_calls : ∀ u : Tr, TextOk u
  | .empty => rtext_empty
  | .cls S => rtext_cls S
  | .cat a b => rtext_cat a b (rtext_calls a) (rtext_calls b)
  | .alt a b => rtext_alt a b (rtext_calls a) (rtext_calls b)
  | .star a => rtext_star a (rtext_calls a)
  | .plus a => rtext_plus a (rtext_calls a)
  | .quest a => rtext_quest a (rtext_calls a)

set_option maxHeartbeats 400000 in
theorem rshow_calls (u : Tr) (w : World) (t : Nat) (ns : List RN) (n : Nat) (hn : ns.length = n + 1) (hnb : n ≤ 1000) (htree : RefTree w t ns) (hnode : NodeIs ns u n) (hz : (showT u).length ≤ 1000000000) :
    Calls Try.prog 19 #[.pointer (some ⟨t, 0, none⟩)] w fun e w' => e = .returned (.string ⟨(showT u).toArray⟩) ∧ Below w.heap.size w w' := by
  have hcall := rtext_calls u w t ns n htree hnode hz
  have HC := Lib.hid hcall
  clear hcall
  obtain ⟨base, v, s, j, d, h1, h2⟩ := htree
  obtain ⟨x, hx⟩ : ∃ x, ns[n]? = some x := ⟨_, List.getElem?_eq_getElem (by omega)⟩
  obtain ⟨g, cap, rfl, hlr, hgl⟩ := node_load h2 hx
  have c0 : _ = some (Value.slice (some ⟨g, 0, none⟩) ns.length cap) := h1.cell 0
  rw [hn] at c0
  clear hlr hx h1 h2
  go_enter Try.func19, Try.ntmps19
  go_wp2_with fail
  refine HC.out.mono ?_
  rintro e w2 ⟨rfl, hb2⟩
  go_wp2_with fail
  go_ret
  exact ⟨rfl, hb2⟩
end Go.Proofs.Ytlmnincllndpnaa
