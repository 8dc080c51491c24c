/- The walk of (*sweep).drop: one pass over the blocks comes to dropTo. -/
import Derived.Test.YtfokjcoiehgbpaaRetWalksA
namespace Go.Proofs.Ytfokjcoiehgbpaa
open Go.RowKit
attribute [local go_sem ↓] Go.wp_at_zero Go.wp_at_succ
attribute [local go_sem] Later.cell Later.frozen

abbrev dropVal (d : Drop) : Value := .tuple #[.int .i64 d.bytes, .int .i64 d.count, .int .i64 d.oldest]

set_option maxHeartbeats 2000000 in
set_option maxRecDepth 100000 in
theorem drop_calls (sb g cap c n B : Nat) (A : Option Addr) (lo : List Int) (xs : List Info) (gs : List Bool) (w : World) (hn : n ≤ 9223372036854775807)
    (hl0 : w.cell? ⟨sb, 0, none⟩ = some (.int .i64 (lo.getD 0 0))) (hl1 : w.cell? ⟨sb, 1, none⟩ = some (.int .i64 (lo.getD 1 0))) (hl2 : w.cell? ⟨sb, 2, none⟩ = some (.int .i64 (lo.getD 2 0)))
    (c3 : w.cell? ⟨sb, 3, none⟩ = some (.slice A n c)) (c4 : w.cell? ⟨sb, 4, none⟩ = some (.slice (some ⟨g, 0, none⟩) n cap))
    (hsb : sb < w.heap.size) (hsg : sb ≠ g) (hBg : B ≤ g) (hgw : g < w.heap.size) (hgl : gs.length = n)
    (hX : Elems w B 5 Info.enc A n xs) (hG : Blk w g 4 (gs.map Value.bool).toArray) :
    Calls Try.prog 13 #[.pointer (some ⟨sb, 0, none⟩)] w fun e w' => e = .returned (dropVal (dropTo lo xs gs n)) ∧ Kept w.heap.size [g] w w' ∧ Blk w' g 4 ((dropTo lo xs gs n).gs.map Value.bool).toArray := by
  have HL := Lib.hid hgl
  have hxl := Lib.hid hX.1
  clear hgl
  go_enter Try.func13, Try.ntmps13
  go_wp2
  go_loopw [2, 3, 4, 12] (fun t2 t3 t4 i wr => ∃ k : Nat, k ≤ n ∧ i = .int .i64 k ∧ t2 = .int .i64 (dropTo lo xs gs k).bytes ∧ t3 = .int .i64 (dropTo lo xs gs k).count ∧ t4 = .int .i64 (dropTo lo xs gs k).oldest ∧ Kept w.heap.size [g] w wr ∧ Blk wr g 4 ((dropTo lo xs gs k).gs.map Value.bool).toArray) (fun _ _ _ i _ => n - (intOf i).toNat)
  case atStart => exact ⟨0, by omega, rfl, rfl, rfl, rfl, Kept.refl _ _ _, hG⟩
  case round =>
    obtain ⟨k, hk, rfl, rfl, rfl, rfl, hkw, hgk⟩ := hrel
    have hsz := hkw.size
    have d0 := (hkw.cell (p := ⟨sb, 0, none⟩) hsb (by simp [hsg])).trans hl0
    have d1 := (hkw.cell (p := ⟨sb, 1, none⟩) hsb (by simp [hsg])).trans hl1
    have d2 := (hkw.cell (p := ⟨sb, 2, none⟩) hsb (by simp [hsg])).trans hl2
    have d3 := (hkw.cell (p := ⟨sb, 3, none⟩) hsb (by simp [hsg])).trans c3
    have d4 := (hkw.cell (p := ⟨sb, 4, none⟩) hsb (by simp [hsg])).trans c4
    by_cases hlt : k < n
    · obtain ⟨b, off, rfl, hbB, hcell⟩ := hX.2 (by omega)
      have hxl' := hxl.out
      obtain ⟨x, hx⟩ : ∃ x, xs[k]? = some x := ⟨_, List.getElem?_eq_getElem (by omega)⟩
      have hxD : xs.getD k Info.zero = x := by simp [List.getD, hx]
      have rd : ∀ i y, xs[i]? = some y → ∀ j v, (Info.enc y)[j]? = some v → wr.cell? ⟨b, off + i * 5 + j, none⟩ = some v := fun i y hy j v hv =>
        (hkw.cell (p := ⟨b, _, none⟩) (by show b < _; omega) (by show b ∉ [g]; simp; omega)).trans (hcell i y hy j v hv)
      have q0 := rd k x hx 0 _ rfl
      have q1 := rd k x hx 1 _ rfl
      have q2 := rd k x hx 2 _ rfl
      have q3 := rd k x hx 3 _ rfl
      have q4 := rd k x hx 4 _ rfl
      simp only [Nat.add_zero] at q0
      have hbd := dropTo_bounds lo xs gs k
      have hdl := dropTo_len lo xs gs k
      have hgf := hgk.frozen k
      have sGoes := @dropTo_goes lo xs gs k x hxD
      have sWas := @dropTo_was lo xs gs k x hxD
      have sStays := @dropTo_stays lo xs gs k x hxD
      have SG := Lib.hid sGoes
      have SW := Lib.hid sWas
      have SS := Lib.hid sStays
      clear sGoes sWas sStays
      generalize dropTo lo xs gs k = d at *
      obtain ⟨b1, hb1⟩ : ∃ b1, d.gs.getD k false = b1 := ⟨_, rfl⟩
      have hgc : wr.cell? ⟨g, k, none⟩ = some (.bool b1) := by
        rw [hgk.cell, ← hb1]; simp [List.getD, List.getElem?_eq_getElem (show k < d.gs.length by rw [hdl, HL.out]; exact hlt)]
      obtain ⟨lv, hlv⟩ : ∃ lv, lo.getD x.res.toNat 0 = lv := ⟨_, rfl⟩
      have HB1 := Lib.hid hb1
      have HLV := Lib.hid hlv
      have RD := Lib.hid rd
      have HDL := Lib.hid hdl
      obtain ⟨hb2, hb3, hb4, hb5⟩ := hbd
      have yex : ∃ y, 0 ≤ d.oldest → xs[d.oldest.toNat]? = some y := by
        by_cases h : 0 ≤ d.oldest
        · exact ⟨_, fun _ => List.getElem?_eq_getElem (l := xs) (i := d.oldest.toNat) (by omega)⟩
        · exact ⟨x, fun h' => absurd h' h⟩
      obtain ⟨y, hy⟩ := yex
      have HY := Lib.hid hy
      clear hy
      by_cases hkn : knownB x.res = true
      · obtain ⟨h1, h2⟩ := known_yes hkn
        have h3 : wr.cell? ⟨sb, x.res.toNat, none⟩ = some (.int .i64 lv) := by
          rw [← hlv]
          have : x.res = 0 ∨ x.res = 1 ∨ x.res = 2 := by omega
          rcases this with e | e | e <;> rw [e] <;> assumption
        have hgo : goesB lo x = decide (x.to_ ≤ lv) := by rw [goesB, hkn, hlv, Bool.true_and]
        have HGO := Lib.hid hgo
        clear hx hxD rd hcell hdl hxl' hgo hb1 hlv d0 d1 d2 hl0 hl1 hl2
        by_cases hle : x.to_ ≤ lv
        · have hs := SG.out (HGO.out.trans (by simp [hle]))
          have HS := Lib.hid hs
          clear hs
          go_wp2
          go_region_held3 (fun w' => w'.cell? ⟨sb, x.res.toNat, none⟩ = some (.int .i64 lv) ∧ w'.cell? ⟨wr.heap.size, 0, none⟩ = some (.int .i64 x.id) ∧ w'.cell? ⟨wr.heap.size, 1, none⟩ = some (.int .i64 x.res) ∧ w'.cell? ⟨wr.heap.size, 2, none⟩ = some (.int .i64 x.frm) ∧ w'.cell? ⟨wr.heap.size, 3, none⟩ = some (.int .i64 x.to_) ∧ w'.cell? ⟨wr.heap.size, 4, none⟩ = some (.int .i64 x.bytes)) (first | go_keep | (refine ⟨?_, ?_, ?_, ?_, ?_, ?_⟩ <;> (rw [hbk.cell (by simp; try omega)]; simp [*])))
            (first | (go_at_call 18; refine (known_calls x _ hkn _).mono ?_; rintro e w1 ⟨rfl, hbk⟩))
          have bW : Below wr.heap.size wr w1 := then_ (by go_grown) hbk
          have e4 := later bW d4
          have eg := later bW hgc
          have ef := laterF bW hgc hgf
          go_wp2
          go_roundw
          case rel =>
            refine ⟨k + 1, by omega, by go_num, vi (by rw [HS.out]), vi (by rw [HS.out]), vi (by rw [HS.out]), (hkw.then_ bW).setCell (.inl (by simp)) _, ?_⟩
            rw [HS.out]
            have := (hgk.below bW (by omega)).set_ k (.bool true)
            rwa [set_bools] at this
          case measure => simp [intOf]; omega
        · have hgo' : goesB lo x = false := HGO.out.trans (by simp [hle])
          cases b1 with
          | true =>
            have hs := SW.out hgo' HB1.out
            have HS := Lib.hid hs
            clear hs hgo'
            go_wp2
            go_region_held3 (fun w' => w'.cell? ⟨sb, x.res.toNat, none⟩ = some (.int .i64 lv) ∧ w'.cell? ⟨wr.heap.size, 0, none⟩ = some (.int .i64 x.id) ∧ w'.cell? ⟨wr.heap.size, 1, none⟩ = some (.int .i64 x.res) ∧ w'.cell? ⟨wr.heap.size, 2, none⟩ = some (.int .i64 x.frm) ∧ w'.cell? ⟨wr.heap.size, 3, none⟩ = some (.int .i64 x.to_) ∧ w'.cell? ⟨wr.heap.size, 4, none⟩ = some (.int .i64 x.bytes)) (first | go_keep | (refine ⟨?_, ?_, ?_, ?_, ?_, ?_⟩ <;> (rw [hbk.cell (by simp; try omega)]; simp [*])))
              (first | (go_at_call 18; refine (known_calls x _ hkn _).mono ?_; rintro e w1 ⟨rfl, hbk⟩))
            have bW : Below wr.heap.size wr w1 := then_ (by go_grown) hbk
            have e4 := later bW d4
            have eg := later bW hgc
            go_wp2
            go_roundw
            case rel =>
              refine ⟨k + 1, by omega, by go_num, vi (by rw [HS.out]), vi (by rw [HS.out]), vi (by rw [HS.out]), (hkw.then_ bW), ?_⟩
              rw [HS.out]
              exact hgk.below bW (by omega)
            case measure => simp [intOf]; omega
          | false =>
            have hs := SS.out hgo' HB1.out
            have HS := Lib.hid hs
            clear hs hgo'
            by_cases ho : d.oldest < 0
            · have hno : nextOldest xs d.oldest k x = k := by rw [nextOldest, hkn]; simp [ho]
              have HNO := Lib.hid hno
              clear hno
              have ho1 : decide (d.oldest < 0) = true := by simp [ho]
              go_wp2
              go_region_held3 (fun w' => w'.cell? ⟨sb, x.res.toNat, none⟩ = some (.int .i64 lv) ∧ w'.cell? ⟨wr.heap.size, 0, none⟩ = some (.int .i64 x.id) ∧ w'.cell? ⟨wr.heap.size, 1, none⟩ = some (.int .i64 x.res) ∧ w'.cell? ⟨wr.heap.size, 2, none⟩ = some (.int .i64 x.frm) ∧ w'.cell? ⟨wr.heap.size, 3, none⟩ = some (.int .i64 x.to_) ∧ w'.cell? ⟨wr.heap.size, 4, none⟩ = some (.int .i64 x.bytes)) (first | go_keep | (refine ⟨?_, ?_, ?_, ?_, ?_, ?_⟩ <;> (rw [hbk.cell (by simp; try omega)]; simp [*])))
                (first | (go_at_call 18; refine (known_calls x _ hkn _).mono ?_; rintro e w1 ⟨rfl, hbk⟩))
              have bW : Below wr.heap.size wr w1 := then_ (by go_grown) hbk
              have e4 := later bW d4
              have eg := later bW hgc
              obtain ⟨m0, m1, m2, m3, m4, m5⟩ := ‹_ ∧ _ ∧ _ ∧ _ ∧ _ ∧ _›
              have zw : wr.heap.size < w1.heap.size := lt_of_cell m1
              go_wp2
              refine wp_region_later (by kernel_rfl) (by kernel_rfl) ?_
              repeat (go_big_quiet_step ((first | (go_at_call 18; exact quiet_later _ (known_calls x _ hkn _)) | (go_at_call 19; exact quiet_later _ (older_calls x y _ hol _)))))
              refine wpQuiet_nil ?_
              rintro w2 ⟨⟨_, hbk2⟩, rfl⟩
              have bW2 : Below wr.heap.size wr w2 := then_ bW hbk2
              go_wp2
              go_roundw
              case rel =>
                refine ⟨k + 1, by omega, by go_num, vi (by rw [HS.out]), vi (by rw [HS.out]), vi (by rw [HS.out]; exact HNO.out.symm), (hkw.then_ bW2), ?_⟩
                rw [HS.out]
                exact hgk.below bW2 (by omega)
              case measure => simp [intOf]; omega
            · have hy := HY.out (by omega)
              have hno : nextOldest xs d.oldest k x = if olderB x y then (k : Int) else d.oldest := by
                rw [nextOldest, hkn, List.getD, hy, Option.getD_some]
                have : decide (d.oldest < 0) = false := by simp; omega
                rw [this, Bool.false_or, Bool.true_and]
              have HNO := Lib.hid hno
              have y0 := RD.out _ y hy 0 _ rfl
              have y1 := RD.out _ y hy 1 _ rfl
              have y2 := RD.out _ y hy 2 _ rfl
              have y3 := RD.out _ y hy 3 _ rfl
              have y4 := RD.out _ y hy 4 _ rfl
              simp only [Nat.add_zero] at y0
              clear hno hy
              have ho1 : decide (d.oldest < 0) = false := by simp; omega
              have ho2 : 0 ≤ d.oldest := by omega
              have ho3 : d.oldest < (n : Int) := by omega
              go_wp2
              go_region_held3 (fun w' => w'.cell? ⟨sb, x.res.toNat, none⟩ = some (.int .i64 lv) ∧ w'.cell? ⟨wr.heap.size, 0, none⟩ = some (.int .i64 x.id) ∧ w'.cell? ⟨wr.heap.size, 1, none⟩ = some (.int .i64 x.res) ∧ w'.cell? ⟨wr.heap.size, 2, none⟩ = some (.int .i64 x.frm) ∧ w'.cell? ⟨wr.heap.size, 3, none⟩ = some (.int .i64 x.to_) ∧ w'.cell? ⟨wr.heap.size, 4, none⟩ = some (.int .i64 x.bytes)) (first | go_keep | (refine ⟨?_, ?_, ?_, ?_, ?_, ?_⟩ <;> (rw [hbk.cell (by simp; try omega)]; simp [*])))
                (first | (go_at_call 18; refine (known_calls x _ hkn _).mono ?_; rintro e w1 ⟨rfl, hbk⟩))
              have bW : Below wr.heap.size wr w1 := then_ (by go_grown) hbk
              have e4 := later bW d4
              have e3 := later bW d3
              have eg := later bW hgc
              have p0 := later bW y0
              have p1 := later bW y1
              have p2 := later bW y2
              have p3 := later bW y3
              have p4 := later bW y4
              obtain ⟨m0, m1, m2, m3, m4, m5⟩ := ‹_ ∧ _ ∧ _ ∧ _ ∧ _ ∧ _›
              have zb : b < w1.heap.size := lt_of_cell p0
              have zs : sb < w1.heap.size := lt_of_cell e4
              have zw : wr.heap.size < w1.heap.size := lt_of_cell m1
              cases hol : olderB x y
              all_goals
                go_wp2
                refine wp_region_later (by kernel_rfl) (by kernel_rfl) ?_
                repeat (go_big_quiet_step ((first | (go_at_call 18; exact quiet_later _ (known_calls x _ hkn _)) | (go_at_call 19; exact quiet_later _ (older_calls x y _ hol _)))))
                refine wpQuiet_nil ?_
                rintro w2 ⟨⟨_, hbk2⟩, rfl⟩
                have bW2 : Below wr.heap.size wr w2 := then_ bW hbk2
                go_wp2
                go_roundw
                case rel =>
                  refine ⟨k + 1, by omega, by go_num, vi (by rw [HS.out]), vi (by rw [HS.out]), vi (by rw [HS.out]; rw [HNO.out, hol]; rfl), (hkw.then_ bW2), ?_⟩
                  rw [HS.out]
                  exact hgk.below bW2 (by omega)
                case measure => simp [intOf]; omega
      · have hkn' : knownB x.res = false := by simpa using hkn
        clear hkn
        have hkn := hkn'
        have hgo' : goesB lo x = false := by rw [goesB, hkn', Bool.false_and]
        have hno : nextOldest xs d.oldest k x = d.oldest := by rw [nextOldest, hkn']; simp
        have HNO := Lib.hid hno
        have HGO := Lib.hid hgo'
        clear hx hxD rd hcell hdl hxl' hb1 hlv d0 d1 d2 hl0 hl1 hl2 hno hgo' hkn'
        cases b1 with
        | true =>
          have hs := SW.out HGO.out HB1.out
          have HS := Lib.hid hs
          clear hs
          go_wp2
          refine wp_region_later (by kernel_rfl) (by kernel_rfl) ?_
          repeat (go_big_quiet_step ((first | (go_at_call 18; exact quiet_later _ (known_calls x _ hkn _)) | (go_at_call 19; exact quiet_later _ (older_calls x y _ hol _)))))
          refine wpQuiet_nil ?_
          rintro w1 ⟨⟨_, hbk⟩, rfl⟩
          have bW : Below wr.heap.size wr w1 := then_ (by go_grown) hbk
          have e4 := later bW d4
          have eg := later bW hgc
          go_wp2
          go_roundw
          case rel =>
            refine ⟨k + 1, by omega, by go_num, vi (by rw [HS.out]), vi (by rw [HS.out]), vi (by rw [HS.out]), (hkw.then_ bW), ?_⟩
            rw [HS.out]
            exact hgk.below bW (by omega)
          case measure => simp [intOf]; omega
        | false =>
          have hs := SS.out HGO.out HB1.out
          have HS := Lib.hid hs
          clear hs
          go_wp2
          refine wp_region_later (by kernel_rfl) (by kernel_rfl) ?_
          repeat (go_big_quiet_step ((first | (go_at_call 18; exact quiet_later _ (known_calls x _ hkn _)) | (go_at_call 19; exact quiet_later _ (older_calls x y _ hol _)))))
          refine wpQuiet_nil ?_
          rintro w1 ⟨⟨_, hbk⟩, rfl⟩
          have bW : Below wr.heap.size wr w1 := then_ (by go_grown) hbk
          have e4 := later bW d4
          have eg := later bW hgc
          have zb := hbk.size
          have hcb := fun (j : Nat) => hbk.cell (p := ⟨wr.heap.size, j, none⟩) (by simp)
          have m1 := (hcb 0).trans (by simp; rfl)
          have m2 := (hcb 1).trans (by simp; rfl)
          have m3 := (hcb 2).trans (by simp; rfl)
          have m4 := (hcb 3).trans (by simp; rfl)
          have m5 := (hcb 4).trans (by simp; rfl)
          clear hcb
          have zw : wr.heap.size < w1.heap.size := lt_of_cell m1
          go_wp2
          refine wp_region_later (by kernel_rfl) (by kernel_rfl) ?_
          repeat (go_big_quiet_step ((first | (go_at_call 18; exact quiet_later _ (known_calls x _ hkn _)) | (go_at_call 19; exact quiet_later _ (older_calls x y _ hol _)))))
          refine wpQuiet_nil ?_
          rintro w2 ⟨⟨_, hbk2⟩, rfl⟩
          have bW2 : Below wr.heap.size wr w2 := then_ bW hbk2
          go_wp2
          go_roundw
          case rel =>
            refine ⟨k + 1, by omega, by go_num, vi (by rw [HS.out]), vi (by rw [HS.out]), vi (by rw [HS.out]; exact HNO.out.symm), (hkw.then_ bW2), ?_⟩
            rw [HS.out]
            exact hgk.below bW2 (by omega)
          case measure => simp [intOf]; omega
    · obtain rfl : k = n := by omega
      go_wp2
      go_ret3
      exact ⟨rfl, hkw, hgk⟩
end Go.Proofs.Ytfokjcoiehgbpaa
