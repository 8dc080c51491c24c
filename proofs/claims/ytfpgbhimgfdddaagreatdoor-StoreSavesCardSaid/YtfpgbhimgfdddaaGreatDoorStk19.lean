/- Merged (what the claim wants of): DskListB, RdkWalksN, RdkWalksO, RdkWalksH, RdkWalksJ, RdkWalksK, DskLaw, DskStep, DskPower, DskListed, DskAlike, DskNil, DskTwo. -/
import Derived.Test.YtfpgbhimgfdddaaGreatDoorStk18
import Derived.Test.YtfpgbhimgfdddaaGreatDoorStk16
import Derived.Test.YtfpgbhimgfdddaaGreatDoorStk14
import Derived.Test.YtfpgbhimgfdddaaGreatDoorStk17
import Derived.Deep.RegionHeldLaw
import Derived.Laws.AppendOwnNone
set_option linter.unusedVariables false
set_option linter.unusedSimpArgs false
/- The walks of layer 3 (disk): List of a directory. -/
namespace Go.Proofs.YtfpgbhimgfdddaaGreatDoor
open Go.RowKit Go.Shelf Go.Maps Go.Sort
attribute [local go_sem ↓] Go.wp_at_zero Go.wp_at_succ
attribute [local go_sem] Later.cell Later.frozen

section
variable {B0 : Nat} {a : Nat → Addr} {R : Nat → Nat} {A : Adr} {d : Ds}
/-- The length of the file s in the directory. -/
def lenIn (d : Ds) (dir s : Txt) : Nat := match fileT d.things (dir ++ [47] ++ s) with | .ok i => (nowAt d i).length | .error _ => 0
theorem findT_mem {l : List Th} (h : (l.map Th.path).Nodup) {x : Th} (hx : x ∈ l) : findT l x.path = some x := by
  unfold findT
  cases e : l.find? (fun y => y.path == x.path) with
  | none =>
    rw [List.find?_eq_none] at e
    have := e x hx
    simp at this
  | some y =>
    have h1 := List.find?_some e
    have h2 := List.mem_of_find?_eq_some e
    rw [path_one h h2 hx (by simpa using h1)]
theorem lenIn_of {n : Nat} (hw : TW n d.things) {dir s : Txt} {x : Th} (hx : x ∈ d.things) (hd : x.dir = false) (hp : x.path = dir ++ [47] ++ s) : lenIn d dir s = (nowAt d x.at_).length := by
  unfold lenIn fileT
  rw [← hp, findT_mem hw.nodup hx]
  simp [hd]
set_option maxRecDepth 100000 in
set_option maxHeartbeats 8000000 in
theorem list_dir (S : ByteArray) (hS0 : S.data.toList ≠ []) (w : World) (h : CD B0 w R A d) (hf : Fit d) (hS : S.size ≤ 1073741824) (hB : B0 ≤ w.heap.size) (hF : Fails B0 a w) (hnl : ∀ i, (fAt d i).now.length ≤ 1073741824) :
    Calls Tryz.prog 29 #[.pointer (some ⟨A.p, 0, none⟩), .string S] w (ListOut a (listD d S.data.toList) S w) := by
  obtain ⟨i0, hi0, hz0, hz1, hz2⟩ := info_parts info_cent
  obtain ⟨p, hp⟩ : ∃ p, A.p = p := ⟨_, rfl⟩
  have HP := Lib.hid hp
  have hoff : w.cell? ⟨p, 6, none⟩ = some (.bool d.off) := by rw [← hp]; exact Blk.cell h.blk 6
  obtain ⟨nb, hnb⟩ : ∃ b, nameB S.data.toList = b := ⟨_, rfl⟩
  obtain ⟨k, hk⟩ : ∃ k, readyR d.off nb = k := ⟨_, rfl⟩
  have HK := Lib.hid hk
  have HRD := Lib.hid (ready_calls (B0 := B0) (a := a) p d.off nb ⟨#[108, 105, 115, 116]⟩ S k hk w hoff hF)
  have HNM := Lib.hid (fun w => name_calls S nb hnb hS w)
  obtain ⟨LD, hLD⟩ : ∃ r, listD d S.data.toList = r := ⟨_, rfl⟩
  have hld : LD = if d.off = true then ([], 1) else if nb = false then ([], 2) else if isT d.things S.data.toList = 1 then ([], 3) else if isT d.things S.data.toList = 0 then ([], 4) else (sortE (entD d S.data.toList), 0) := by
    rw [← hLD]
    unfold listD
    rw [hnb]
    simp only [ne_eq, hS0, not_false_eq_true, true_and]
  have HLD := Lib.hid hld
  have HS0 := Lib.hid hS0
  have hz0' : 0 < S.size := by
    rcases Nat.eq_zero_or_pos S.size with h0 | h0
    · exact absurd (List.eq_nil_of_length_eq_zero (by rw [text_size3]; exact h0)) hS0
    · exact h0
  have hSne : S ≠ ⟨#[]⟩ := fun e => hS0 (by rw [e])
  obtain ⟨s1, s2, s3, s4⟩ := ne_facts hSne
  have s5 : S.toList.isEmpty = false := by rw [empty_size3]; exact decide_eq_false (by omega)
  have s6 : S.toList ≠ [] := fun e => by rw [e] at s5; simp at s5
  have s7 : decide (S.toList = []) = false := by simpa using s6
  rw [hLD, hp]
  have HNL := Lib.hid hnl
  clear hk hp hoff hLD hld hnl hnb hS0 hSne s6
  go_enter Tryz.func29, Tryz.ntmps29
  go_wp2_with fail
  refine (HNM.out _).mono ?_
  rintro _ w1 ⟨rfl, rfl⟩
  go_wp2_with fail
  refine HRD.out.mono ?_
  rintro _ w1 ⟨v, rfl, hv1, hb1⟩
  cases k with
  | succ k =>
    have hfin : ListOut a LD S w (.returned (.tuple #[.slice none 0 0, v])) w1 := by
      have e1 : LD = ([], k + 1) := by
        have hk := HK.out
        unfold readyR at hk
        rw [HLD.out, ← hk]
        cases ho : d.off with
        | true => rfl
        | false =>
          rw [ho] at hk
          cases nb with
          | true => simp at hk
          | false => rfl
      rw [e1]
      exact ListOut.bad hv1 hb1
    obtain ⟨q4, rfl, _⟩ := hv1
    have HFIN := Lib.hid hfin
    clear hfin
    go_wp2_with fail
    go_ret2
    exact HFIN.out
  | zero =>
    obtain rfl : v = .nilIface := hv1
    obtain ⟨ho, hn⟩ : d.off = false ∧ nb = true := by
      have hk := HK.out
      unfold readyR at hk
      cases ho : d.off with
      | true => rw [ho] at hk; simp at hk
      | false =>
        rw [ho] at hk
        cases nb with
        | true => exact ⟨rfl, rfl⟩
        | false => simp at hk
    have hld : LD = if isT d.things S.data.toList = 1 then ([], 3) else if isT d.things S.data.toList = 0 then ([], 4) else (sortE (entD d S.data.toList), 0) := by rw [HLD.out, ho, hn]; rfl
    have HLE := Lib.hid hld
    have hcd1 := h.below hb1
    have hF1 := hF.below (hb1.mono hB)
    obtain ⟨P, hP, hlf0⟩ := look_fil hcd1 hf S hS
    have hlf := hlf0 ⟨w1, Below.refl _ _⟩
    obtain ⟨md, hmd⟩ : ∃ x, A.md = x := ⟨_, rfl⟩
    obtain ⟨mf, hmf⟩ : ∃ x, A.mf = x := ⟨_, rfl⟩
    have c0 : w1.cell? ⟨p, 0, none⟩ = some (.map (some md)) := by rw [← HP.out, ← hmd]; exact Blk.cell hcd1.blk 0
    have c1 : w1.cell? ⟨p, 1, none⟩ = some (.map (some mf)) := by rw [← HP.out, ← hmf]; exact Blk.cell hcd1.blk 1
    rw [hmf] at hlf
    have hsf : SM w1 mf (filF A.φ d.things) := by rw [← hmf]; exact hcd1.files.1
    have f3 : _ = some (failV a 3) := (hF1 3 (by decide)).2
    have f4 : _ = some (failV a 4) := (hF1 4 (by decide)).2
    unfold failV at f3 f4
    simp only [failG] at f3 f4
    have HCD1 := Lib.hid hcd1
    have HB1 := Lib.hid hb1
    have HPP := Lib.hid hP
    have htl := hf.tl
    have hpl : p < w1.heap.size := lt_of_cell c0
    have HMD := Lib.hid hmd
    have hlfw : (Instr.lookup 120 (.map (some mf)) (.string S) false).run Tryz.prog w1 = .ok (.pointer P) w1 := hlf
    clear hcd1 hF1 hlf0 hlf hmd hmf ho hn hld hb1 hP
    rcases isT_range d.things S.data.toList with h0 | h0 | h0
    · obtain rfl : P = none := HPP.out.2 (by rw [h0]; omega)
      have hlk : (Instr.lookup 119 (.map (some md)) (.string S) false).run Tryz.prog w1 = .ok (.int .i64 0) w1 := by
        rw [← HMD.out]
        exact look_dir HCD1.out hf S hS 0 (by rw [h0]; rfl) ⟨w1, Below.refl _ _⟩
      have hfl := fail_calls (a := a) ⟨#[108, 105, 115, 116]⟩ S 3 w1
      unfold failV at hfl
      have HFL := Lib.hid hfl
      have hld : LD = ([], 4) := by rw [HLE.out, h0]; rfl
      have HL4 := Lib.hid hld
      clear hfl hld h0
      go_wp2_with fail
      refine HFL.out.mono ?_
      rintro e w5 ⟨v, rfl, hv5, hb5⟩
      have hfin : ListOut a LD S w (.returned (.tuple #[.slice none 0 0, v])) w5 := by rw [HL4.out]; exact ListOut.bad hv5 (then_ HB1.out hb5)
      have HFIN := Lib.hid hfin
      clear hfin hv5
      go_wp2_with fail
      go_ret2
      exact HFIN.out
    · obtain ⟨P', rfl⟩ : ∃ P', P = some P' := by
        cases P with
        | none => exact absurd h0 (HPP.out.1 rfl)
        | some P' => exact ⟨P', rfl⟩
      have hfl := fail_calls (a := a) ⟨#[108, 105, 115, 116]⟩ S 2 w1
      unfold failV at hfl
      have HFL := Lib.hid hfl
      have hld : LD = ([], 3) := by rw [HLE.out, h0]; rfl
      have HL3 := Lib.hid hld
      clear hfl hld h0
      go_wp2_with fail
      refine HFL.out.mono ?_
      rintro e w5 ⟨v, rfl, hv5, hb5⟩
      have hfin : ListOut a LD S w (.returned (.tuple #[.slice none 0 0, v])) w5 := by rw [HL3.out]; exact ListOut.bad hv5 (then_ HB1.out hb5)
      have HFIN := Lib.hid hfin
      clear hfin hv5
      go_wp2_with fail
      go_ret2
      exact HFIN.out
    · obtain rfl : P = none := HPP.out.2 (by rw [h0]; omega)
      have hlk : (Instr.lookup 119 (.map (some md)) (.string S) false).run Tryz.prog w1 = .ok (.int .i64 1) w1 := by
        rw [← HMD.out]
        exact look_dir HCD1.out hf S hS 1 (by rw [h0]; rfl) ⟨w1, Below.refl _ _⟩
      have hld : LD = (sortE (entD d S.data.toList), 0) := by rw [HLE.out, h0]; rfl
      have HL0 := Lib.hid hld
      have HWI := Lib.hid (within_calls (some md) (some mf) mf rfl (filF A.φ d.things) S w1 hsf (d.things.map Th.path) (fun x hx => filF_in hx) (by rw [List.length_map]; omega) hS (paths_short hf.tw))
      have HSF := Lib.hid hsf
      clear hld h0 hsf f3 f4
      go_upto_block 0 with fail
      go_cut [7] (fun s7 wz => ∃ v7 out, v7 = s7 ∧ EntRow wz w.heap.size v7 out ∧ out.Perm (entD d S.data.toList) ∧ Below w.heap.size w wz)
      case first =>
        go_wp2_with fail
        refine HWI.out.mono ?_
        rintro _ w2 ⟨Ab, cb, bs, rfl, hbs, hbc, hasc, hmem, hb2⟩
        have hnd : bs.Nodup := hasc.imp (fun {a b} h e => by subst e; exact List.lt_irrefl _ h)
        have hbl : bs.length ≤ 1073741824 := by
          have := nodup_len (bs.map fun s => S.data.toList ++ [47] ++ s) (d.things.map Th.path) (by
            rw [List.nodup_iff_pairwise_ne, List.pairwise_map]
            exact hnd.imp (fun {a b} h e => h (app_cancel e))) (fun z hz => by
            obtain ⟨s, hs, rfl⟩ := List.mem_map.1 hz
            exact filF_in (φ := A.φ) ((hmem s).1 hs))
          rw [List.length_map, List.length_map] at this
          omega
        have hperm : (bs.map fun s => (⟨s, false, lenIn d S.data.toList s⟩ : En)).Perm (entD d S.data.toList) := dir_perm hf.tw HS0.out hnd (lenIn d S.data.toList) (fun s => by
          rw [hmem s, filF_one hf.tw, isT_one hf.tw.nodup]) (fun x hx s hd hp => lenIn_of hf.tw hx hd hp)
        obtain ⟨KN, hKN⟩ : ∃ n, bs.length = n := ⟨_, rfl⟩
        rw [hKN] at hbs hbc hbl ⊢
        have hB2 : Below w.heap.size w w2 := HB1.out.trans (hb2.mono HB1.out.size)
        have HBS := Lib.hid hbs
        have HMEM := Lib.hid hmem
        have HPM := Lib.hid hperm
        have HKN := Lib.hid hKN
        have HCD2 := Lib.hid (HCD1.out.below hb2)
        have HSF2 := Lib.hid (HSF.out.below hb2 HSF.out.lt)
        have HB2 := Lib.hid hB2
        have d1 : w2.cell? ⟨p, 1, none⟩ = some (.map (some mf)) := (hb2.cell (p := ⟨p, 1, none⟩) hpl).trans c1
        have hmfl : mf < w2.heap.size := HSF2.out.lt
        clear hbs hbc hasc hmem hb2 hnd hperm hKN hB2 hlk hlfw c0 c1
        go_wp2_with fail
        go_loopg [7, 32] KN (fun g s7 s32 wr => ∃ (i : Nat) (v7 : Value), v7 = s7 ∧ i + g = KN ∧ s32 = .int .i64 (i : Int) ∧ EntRow wr w2.heap.size v7 ((bs.take i).map fun s => (⟨s, false, lenIn d S.data.toList s⟩ : En)) ∧ Below w2.heap.size w2 wr)
        case atStart => exact ⟨0, _, rfl, by omega, rfl, World.ownsRow_nil _ _ _ _, Below.refl _ _⟩
        case round =>
          obtain ⟨i, v7, rfl, hig, rfl, hrow, hB⟩ := hrel
          have HIG := Lib.hid hig
          have HROW := Lib.hid hrow
          clear hig
          by_cases hi : i < KN
          · have el : decide ((i : Int) < (KN : Int)) = true := by simp; omega
            have el' : decide (i < KN) = true := by simp; omega
            have hil : i < bs.length := by rw [HKN.out]; exact hi
            obtain ⟨bk, ok, hAb, hbk, kk⟩ := HBS.out.at_ hi
            have mk := (hB.cell (p := ⟨bk, ok + i, none⟩) hbk).trans kk
            subst hAb
            obtain ⟨s, hs⟩ : ∃ s, bs[i]! = s := ⟨_, rfl⟩
            have hsm : s ∈ bs := by rw [← hs, getElem!_pos bs i hil]; exact List.getElem_mem hil
            rw [hs] at mk
            obtain ⟨v, hfv⟩ := Option.isSome_iff_exists.1 ((HMEM.out s).1 hsm)
            obtain ⟨t, htm, htd, htp, rfl⟩ := (filF_iff hf.tw.nodup).1 hfv
            have hlen := lenIn_of hf.tw htm htd htp
            have htz : t.path.length ≤ 1073741824 := paths_short hf.tw t.path (List.mem_map.2 ⟨t, htm, rfl⟩)
            have hii := hf.tw.ats t htm htd
            obtain ⟨u1, hblk1, _⟩ := file_at HCD2.out hii
            obtain ⟨g, hg⟩ : ∃ g, A.φ[t.at_]?.getD 0 = g := ⟨_, rfl⟩
            unfold fptr at hfv
            rw [hg] at hblk1 hfv
            obtain ⟨T, hT⟩ : ∃ T : ByteArray, (⟨(fAt d t.at_).now.toArray⟩ : ByteArray) = T := ⟨_, rfl⟩
            have hTs : (nowAt d t.at_).length = T.size := by rw [← hT]; rfl
            have hTz : T.size ≤ 1073741824 := by rw [← hTs]; exact HNL.out t.at_
            have hblk2 := hblk1.below hB hblk1.lt
            have f0 : wr.cell? ⟨g, 0, none⟩ = some (.string T) := by rw [← hT]; exact hblk2.cell 0
            obtain ⟨N, hN⟩ : ∃ N : ByteArray, (⟨s.toArray⟩ : ByteArray) = N := ⟨_, rfl⟩
            have hNl : N.data.toList = s := by rw [← hN]
            unfold txtV at mk
            rw [hN] at mk
            have hcat : (S ++ (⟨#[47]⟩ : ByteArray) ++ N).data.toList = S.data.toList ++ [47] ++ s := by rw [← hNl]; simp
            have hcz : S.size + 1 + N.size ≤ 1073741824 := by
              have h1 := congrArg List.length htp
              simp only [List.length_append, text_size3, List.length_singleton] at h1
              have h2 := congrArg List.length hNl
              rw [text_size3] at h2
              omega
            have hsfr := HSF2.out.below hB HSF2.out.lt
            have hlk : (Instr.lookup 120 (.map (some mf)) (.string (S ++ (⟨#[47]⟩ : ByteArray) ++ N)) false).run Tryz.prog wr = .ok (.pointer (some ⟨g, 0, none⟩)) wr := by
              have := SMap.look hsfr Tryz.underlying9 Tryz.underlying120 (zeroFl wr) (s := S ++ (⟨#[47]⟩ : ByteArray) ++ N) (by rw [← text_size3, hcat, ← htp]; unfold maxLen; omega)
              rw [hcat, hfv] at this
              exact this
            have e1 : wr.cell? ⟨p, 1, none⟩ = some (.map (some mf)) := (hB.cell (p := ⟨p, 1, none⟩) (lt_of_cell d1)).trans d1
            have htk : (bs.take (i + 1)).map (fun s => (⟨s, false, lenIn d S.data.toList s⟩ : En)) = (bs.take i).map (fun s => (⟨s, false, lenIn d S.data.toList s⟩ : En)) ++ [⟨s, false, T.size⟩] := by
              rw [List.take_succ_eq_append_getElem hil, List.map_append, ← hTs, ← hlen, ← hs, getElem!_pos bs i hil]
              rfl
            obtain ⟨out, hout⟩ : ∃ o, (bs.take i).map (fun s => (⟨s, false, lenIn d S.data.toList s⟩ : En)) = o := ⟨_, rfl⟩
            have hol : out.length = i := by rw [← hout, List.length_map, List.length_take]; omega
            rw [hout] at hrow htk
            have hrow2 : wr.ownsRow w2.heap.size 167 3 v7 i (out.flatMap encE) := by have := hrow; unfold EntRow at this; rw [hol] at this; exact this
            have henc : (out ++ [(⟨s, false, T.size⟩ : En)]).flatMap encE = out.flatMap encE ++ [.string N, .bool false, .int .i64 (T.size : Int)] := by
              rw [List.flatMap_append, ← hNl]
              simp [encE, txtV_self]
            have HENC := Lib.hid henc
            have HTK := Lib.hid htk
            have HOL := Lib.hid hol
            have HB := Lib.hid hB
            have hbz : w2.heap.size ≤ wr.heap.size := hB.size
            have hpr : p < wr.heap.size := lt_of_cell e1
            clear hs hsm hfv htm htd htp hlen htz hii hblk1 hblk2 hg hT hTs hN hNl hcat hsfr htk hout hol henc hrow kk hB
            go_wp2_with (at_builtin; refine wpList_append_own_at _ rfl _ _ 73 rfl w2.heap.size 167 i0 (.agg #[.string ⟨#[]⟩, .bool false, .int .i64 0]) 3 32 Tryz.underlying73 hi0 hz0 hz1 hz2 rfl (by decide) _ _ _ rfl (hrow2.alloc _) ⟨wr.heap.size, 0, none⟩ 1 1 [.string N, .bool false, .int .i64 (T.size : Int)] rfl rfl ?p1 ?p2 ?p3 ?p4 ?p5 ?_)
            case p1 => exact news_of_blk (l := [.string N, .bool false, .int .i64 (T.size : Int)]) (Blk.new wr _ _)
            case p2 => intro u hu; simp at hu; rcases hu with rfl | rfl | rfl <;> rfl
            case p3 => unfold maxLen; omega
            case p4 => omega
            case p5 => simp; omega
            intro v' w4 hown' hgrow _ _
            have hall : wr.grownBy w4 v7.ownBlock := (World.grownBy_alloc wr _ _).trans hgrow
            have hB4 : Below w2.heap.size w2 w4 := HB.out.trans ⟨hall.os, hall.tape, hall.output, hall.size, fun j hj => hall.block j (by omega) (fun e => by have := (World.ownsRow.lt hrow2 j e.symm).1; omega)⟩
            have hrow4 : EntRow w4 w2.heap.size v' ((bs.take (i + 1)).map fun s => (⟨s, false, lenIn d S.data.toList s⟩ : En)) := by
              unfold EntRow
              rw [HTK.out, HENC.out, List.length_append, HOL.out]
              exact hown'
            clear hown' hgrow hall hrow2 hlk mk f0 e1
            go_wp2_with fail
            go_roundg (gk - 1)
            case measure => have := HIG.out; omega
            case rel => exact ⟨i + 1, _, rfl, by have := HIG.out; omega, by go_num, hrow4, hB4⟩
          · have el : decide ((i : Int) < (KN : Int)) = false := by simp; omega
            have el' : decide (i < KN) = false := by simp; omega
            have htk : bs.take i = bs := List.take_of_length_le (by rw [HKN.out]; omega)
            rw [htk] at hrow
            have HR2 := Lib.hid (show EntRow wr w.heap.size v7 (bs.map fun s => (⟨s, false, lenIn d S.data.toList s⟩ : En)) from World.ownsRow.mono hrow HB2.out.size)
            have HBF := Lib.hid (HB2.out.trans (hB.mono HB2.out.size))
            clear htk hrow hB
            go_wp2_with fail
            go_meet
            exact ⟨v7, _, rfl, HR2.out, HPM.out, HBF.out⟩
      case rest =>
        obtain ⟨v7, out, rfl, hrow, hperm, hB⟩ := hcut
        obtain ⟨w7, rfl⟩ : ∃ x, x = wc := ⟨_, rfl⟩
        have hol : out.length ≤ 1073741824 := by
          rw [hperm.length_eq, entD_of]
          have := List.length_filterMap_le (entOf d S.data.toList) d.things
          omega
        have HSO := Lib.hid (sortany_calls out w.heap.size v7 w7 hrow hol)
        have HROW := Lib.hid hrow
        have HPM := Lib.hid hperm
        have HB := Lib.hid hB
        clear hrow hperm hB c0 c1 hol hlk hlfw
        go_wp2_with fail
        refine HSO.out.mono ?_
        rintro e w8 ⟨rfl, l', hp', hs', hrow8, hg8⟩
        have hb8 : Below w.heap.size w w8 := by
          have hb := HB.out
          exact hb.trans ⟨hg8.os, hg8.tape, hg8.output, hg8.size, fun k hk => hg8.block k (by have := hb.size; omega) (fun e => by have := (World.ownsRow.lt HROW.out k e.symm).1; omega)⟩
        have hfin : ListOut a LD S w (.returned (.tuple #[v7, .nilIface])) w8 := by
          rw [HL0.out, ← listD_ok hf.tw (hp'.trans HPM.out) hs']
          exact ⟨_, _, rfl, rfl, hrow8, hb8⟩
        have HFIN := Lib.hid hfin
        clear hfin hb8 hrow8 hg8 hp' hs'
        go_wp2_with fail
        go_ret2
        exact HFIN.out
end
end Go.Proofs.YtfpgbhimgfdddaaGreatDoor

/- The walks of layer 3 (disk), the document's: keep. -/
namespace Go.Proofs.YtfpgbhimgfdddaaGreatDoor
open Go.RowKit Go.Shelf Go.Maps Go.Sort
attribute [local go_sem ↓] Go.wp_at_zero Go.wp_at_succ
attribute [local go_sem] Later.cell Later.frozen

def RChs (w : World) (A : Option Addr) (n : Nat) (l : List Ch) : Prop := Elems w w.heap.size 3 encCh A n l
theorem RChs.at_ {w : World} {A : Option Addr} {n : Nat} {l : List Ch} (h : RChs w A n l) {i : Nat} (hi : i < n) : ∃ b off, A = some ⟨b, off, none⟩ ∧ b < w.heap.size ∧ w.cell? ⟨b, off + i * 3, none⟩ = some (txtV l[i]!.text) ∧ w.cell? ⟨b, off + i * 3 + 1, none⟩ = some (.bool l[i]!.cut) ∧ w.cell? ⟨b, off + i * 3 + 2, none⟩ = some (.int .i64 (l[i]!.size : Int)) := by
  obtain ⟨b, off, e, hb, hc⟩ := h.2 (by omega)
  have hl : i < l.length := by have : l.length = n := Elems.len h; omega
  have hx := hc i l[i]! (by rw [getElem!_pos l i hl, List.getElem?_eq_getElem hl])
  exact ⟨b, off, e, hb, by simpa using hx 0 _ rfl, by simpa using hx 1 _ rfl, by simpa using hx 2 _ rfl⟩
end Go.Proofs.YtfpgbhimgfdddaaGreatDoor

/- The walks of layer 3 (disk), the document's: Restart. -/
namespace Go.Proofs.YtfpgbhimgfdddaaGreatDoor
open Go.RowKit Go.Shelf Go.Maps Go.Sort
attribute [local go_sem ↓] Go.wp_at_zero Go.wp_at_succ
attribute [local go_sem] Later.cell Later.frozen

def Ints (w : World) (A : Option Addr) (n : Nat) (l : List Int) : Prop := Elems w w.heap.size 1 I1 A n l
theorem Ints.at_ {w : World} {A : Option Addr} {n : Nat} {l : List Int} (h : Ints w A n l) {i : Nat} (hi : i < n) : ∃ b off, A = some ⟨b, off, none⟩ ∧ b < w.heap.size ∧ w.cell? ⟨b, off + i, none⟩ = some (.int .i64 l[i]!) := by
  obtain ⟨b, off, e, hb, hc⟩ := h.2 (by omega)
  have hl : i < l.length := by have : l.length = n := Elems.len h; omega
  have hx := hc i l[i]! (by rw [getElem!_pos l i hl, List.getElem?_eq_getElem hl])
  exact ⟨b, off, e, hb, by simpa using hx 0 _ rfl⟩
section
variable {B0 M : Nat} {R : Nat → Nat} {A : RAdr} {d : Ds}
end
end Go.Proofs.YtfpgbhimgfdddaaGreatDoor

/- The walks of layer 3 (disk), the document's: Append. -/
namespace Go.Proofs.YtfpgbhimgfdddaaGreatDoor
open Go.RowKit Go.Shelf Go.Maps Go.Sort
attribute [local go_sem ↓] Go.wp_at_zero Go.wp_at_succ
attribute [local go_sem] Later.cell Later.frozen

section
variable {B0 : Nat} {R : Nat → Nat} {A : RAdr} {d : Ds}
theorem flat_take {l : List Txt} {i : Nat} (hi : i < l.length) : (l.take (i + 1)).flatten = (l.take i).flatten ++ l[i]! := by
  rw [List.take_succ_eq_append_getElem hi, List.flatten_append, getElem!_pos l i hi]
  simp
end
end Go.Proofs.YtfpgbhimgfdddaaGreatDoor

/- The walks of layer 3's law: code, twin. -/
namespace Go.Proofs.YtfpgbhimgfdddaaGreatDoor
open Go.RowKit Go.Shelf Go.Maps Go.Sort
attribute [local go_sem ↓] Go.wp_at_zero Go.wp_at_succ
attribute [local go_sem] Later.cell Later.frozen

/-- The failures lie apart. -/
def Apart (a : Nat → Addr) : Prop := ∀ i j, 1 ≤ i → i ≤ 7 → 1 ≤ j → j ≤ 7 → i ≠ j → a i ≠ a j
section
variable {B0 : Nat} {a : Nat → Addr}
theorem run_asserted (v : Value) (w : World) : (Instr.typeAssert (.iface 68 v) 32 68 true).run Tryz.prog w = .ok (.tuple #[v, .bool true]) w := by
  simp [Instr.typeAssert, run_underlying Tryz.underlying68, go_sem, Result.andThen]
/-- What the failures' variables point at. -/
def Sents (B0 : Nat) (a : Nat → Addr) (w : World) : Prop := ∀ k, 1 ≤ k → k ≤ 7 → (a k).block < B0 ∧ ∃ cs t, w.heap[(a k).block]? = some (.cells cs t (0, 0))
theorem Sents.below {w w' : World} (h : Sents B0 a w) (hb : Below B0 w w') : Sents B0 a w' := fun k h1 h2 => by
  obtain ⟨h3, cs, t, h4⟩ := h k h1 h2
  exact ⟨h3, cs, t, (hb.block _ h3).trans h4⟩
theorem info_ep : (Tryz.prog.info? 306).map (·.comparable) = some true := by kernel_rfl
theorem info_es : (Tryz.prog.info? 308).map (·.size) = some 1 := by kernel_rfl
theorem err_eq (i : Nat) (w : World) : (binOp .eql 32 (failV a i) (failV a i)).run Tryz.prog w = .ok (.bool true) w := by
  obtain ⟨i0, h1, h2⟩ := Option.map_eq_some_iff.1 info_ep
  obtain ⟨j0, h3, _⟩ := Option.map_eq_some_iff.1 info_es
  exact run_eql_iface_ptr_same w (a i) Tryz.underlying32 Tryz.underlying306 h1 h2 h3
theorem err_ne {i j : Nat} {w : World} (hs : Sents B0 a w) (ha : Apart a) (h1 : 1 ≤ i) (h2 : i ≤ 7) (h3 : 1 ≤ j) (h4 : j ≤ 7) (hne : i ≠ j) : (binOp .eql 32 (failV a i) (failV a j)).run Tryz.prog w = .ok (.bool false) w := by
  obtain ⟨i0, k1, k2⟩ := Option.map_eq_some_iff.1 info_ep
  obtain ⟨j0, k3, k4⟩ := Option.map_eq_some_iff.1 info_es
  obtain ⟨_, ci, ti, hi⟩ := hs i h1 h2
  obtain ⟨_, cj, tj, hj⟩ := hs j h3 h4
  exact run_eql_iface_ptr_other w Tryz.underlying32 Tryz.underlying306 k1 k2 k3 (by rw [k4]; decide) (ha i j h1 h2 h3 h4 hne) hi hj
end
end Go.Proofs.YtfpgbhimgfdddaaGreatDoor

/- The walks of layer 3's law: step, arm by arm (printed by gen_lawstep.py). -/
namespace Go.Proofs.YtfpgbhimgfdddaaGreatDoor
open Go.RowKit Go.Shelf Go.Maps Go.Sort
attribute [local go_sem ↓] Go.wp_at_zero Go.wp_at_succ
attribute [local go_sem] Later.cell Later.frozen

/-- One call of a script, in memory. -/
structure OpV where
  kind : Int
  a : ByteArray
  b : ByteArray
  n : Int
  m : Int
  pa : Option Addr
  pn : Nat
  pc : Nat
  da : Option Addr
  dn : Nat
  dc : Nat
  yes : Bool
def OpV.cells (o : OpV) : Array Value := #[.int .i64 o.kind, .string o.a, .string o.b, .int .i64 o.n, .int .i64 o.m, .slice o.pa o.pn o.pc, .slice o.da o.dn o.dc, .bool o.yes]
section
variable {M : Value → World → Prop} {N : World → Prop} {k : Nat}
end
end Go.Proofs.YtfpgbhimgfdddaaGreatDoor

/- The walks of layer 3's law: power, arm by arm; twin (printed by gen_lawpower.py). -/
namespace Go.Proofs.YtfpgbhimgfdddaaGreatDoor
open Go.RowKit Go.Shelf Go.Maps Go.Sort
attribute [local go_sem ↓] Go.wp_at_zero Go.wp_at_succ
attribute [local go_sem] Later.cell Later.frozen

/-- An append whose run is known, at a step of a region that draws. -/
theorem step_known {P : Program} {w w' : World} {ops : Array Oper} {o : Oper} {a : Act} {K : Act → World → Prop} {Q : Exit → Act → World → Prop} {E : Prop} (hgd : o.guard = none) (s x : Operand) (t : TypeId)
    (ho : o.op = .call { callee := .builtin .append, args := #[s, x], argTypes := #[t, t] }) (v u v' : Value) (hs : a.eval s = v) (hx : a.eval x = u)
    (hrun : (Builtin.append_ #[t, t] o.type #[v, u]).run P w = .ok v' w') (h : K (a.put o.dst v') w') :
    if Region.wanted o (yielded ops a.tmps) = true then Oper.wp P o a w K Q else E := by
  have hw : Region.wanted o (yielded ops a.tmps) = true := by simp [Region.wanted, hgd]
  rw [if_pos hw]
  unfold Oper.wp execOp
  simp only [ho, resolve, invoke, builtin, Sem.run_bind, Sem.run_pure, Result.andThen_ok, List.map_toArray, List.map_cons, List.map_nil, hs, hx, hrun]
  exact h
theorem info_int3 : (Tryz.prog.info? 3).map (fun i => (i.zero, i.size, i.bytes)) = some (some (.int .i64 0), 1, 8) := by kernel_rfl
set_option maxRecDepth 100000 in
/-- append([]int(nil), data...). -/
theorem run_ints (Ad : Option Addr) (n c : Nat) (data : List Int) (w : World) (h : Ints3 w Ad n data) (hA : Ad = none → c = 0) (hn : n * 8 ≤ 140737488355328) :
    ∃ A' c' w', (Builtin.append_ #[58, 58] 58 #[.slice none 0 0, .slice Ad n c]).run Tryz.prog w = .ok (.slice A' n c') w' ∧ Ints3 w' A' n data ∧ Below w.heap.size w w' ∧ ∀ x, A' = some x → w.heap.size ≤ x.block := by
  obtain ⟨i0, hi0, hz0, hz1, hz2⟩ := info_parts info_int3
  have hl : data.length = n := Elems.len h
  cases Ad with
  | none =>
    have h0 : n = 0 := by
      rcases Nat.eq_zero_or_pos n with h0 | h0
      · exact h0
      · obtain ⟨b, off, e, _⟩ := h.2 h0; cases e
    subst h0
    obtain rfl := hA rfl
    exact ⟨none, 0, w, run_append_owned_none w w.heap.size 58 58 3 i0 1 Tryz.underlying58 hi0 _ 0 [] (World.ownsRow_nil _ _ _ _), h, Below.refl _ _, fun x e => by cases e⟩
  | some a =>
    have hcells : ∀ j u, (data.map (Value.int .i64))[j]? = some u → w.cell? (a.add j) = some u := by
      intro j u hj
      rw [List.getElem?_map, Option.map_eq_some_iff] at hj
      obtain ⟨x, hx, rfl⟩ := hj
      have hjn : j < n := by have := (List.getElem?_eq_some_iff.1 hx).1; omega
      obtain ⟨b, off, e, hb, hc⟩ := h.2 (by omega)
      have := hc j x hx 0 (.int .i64 x) rfl
      injection e with e
      rw [e]
      have e2 : (⟨b, off, none⟩ : Addr).add j = ⟨b, off + j, none⟩ := by
        unfold Addr.add
        split
        · rename_i h0; subst h0; rfl
        · rfl
      rw [e2]
      simpa using this
    obtain ⟨v', w', h1, h2, h3, h4, h5⟩ := run_append_own_at (P := Tryz.prog) (w := w) w.heap.size 58 58 3 i0 (.int .i64 0) 1 8 Tryz.underlying58 hi0 hz0 hz1 hz2 rfl (by decide) (.slice none 0 0) 0 [] (World.ownsRow_nil _ _ _ _) a n c (data.map (Value.int .i64)) (by rw [List.length_map, hl, Nat.mul_one]) hcells (by intro u hu; obtain ⟨x, _, rfl⟩ := List.mem_map.1 hu; rfl) (by unfold maxLen; omega) (by omega) (Nat.le_refl _)
    rw [Nat.zero_add, List.nil_append] at h2
    obtain ⟨A', c', rfl, hs, hbase, hnc⟩ := Elems.of_own (enc := I1) (xs := data) (fun _ _ => rfl) (flatMap_I1 data) h2 hl
    exact ⟨A', c', w', h1, hs, ⟨h3.os, h3.tape, h3.output, h3.size, fun k hk => h3.block k hk (fun e => by cases e)⟩, hbase⟩
section
variable {M : World → Prop} {N : World → Prop} {k : Nat}
end
end Go.Proofs.YtfpgbhimgfdddaaGreatDoor

/- The walks of layer 3's law: twin, listed. -/
namespace Go.Proofs.YtfpgbhimgfdddaaGreatDoor
open Go.RowKit Go.Shelf Go.Maps Go.Sort
attribute [local go_sem ↓] Go.wp_at_zero Go.wp_at_succ
attribute [local go_sem] Later.cell Later.frozen

theorem EntRow.out {w : World} {B : Nat} {v : Value} {l : List En} (h : EntRow w B v l) : ∃ A c, v = .slice A l.length c ∧ Elems w w.heap.size 3 encE A l.length l ∧ l.length ≤ c := by
  obtain ⟨A, c, h1, h2, _, h4⟩ := Elems.of_own (enc := encE) (xs := l) (fun _ _ => rfl) rfl h rfl
  exact ⟨A, c, h1, h2, h4⟩

section
variable {M : Value → Value → World → Prop} {N : Value → Value → Value → World → Prop} {k : Nat}
end
end Go.Proofs.YtfpgbhimgfdddaaGreatDoor

/- The walks of layer 3 (disk): the calls at a nil disk. -/
namespace Go.Proofs.YtfpgbhimgfdddaaGreatDoor
open Go.RowKit Go.Shelf Go.Maps Go.Sort
attribute [local go_sem ↓] Go.wp_at_zero Go.wp_at_succ
attribute [local go_sem] Later.cell Later.frozen

section
variable {B0 : Nat} {a : Nat → Addr}
def NilOut (a : Nat → Addr) (op s : ByteArray) (w : World) (e : Ending) (w' : World) : Prop :=
  ∃ v, e = .returned v ∧ ErrV a w' op s (0 + 1) v ∧ Below w.heap.size w w'
def NilOut2 (a : Nat → Addr) (u : Value) (op s : ByteArray) (w : World) (e : Ending) (w' : World) : Prop :=
  ∃ v, e = .returned (.tuple #[u, v]) ∧ ErrV a w' op s (0 + 1) v ∧ Below w.heap.size w w'
theorem ready_nil (ok : Bool) (op s : ByteArray) (w : World) (hF : Fails B0 a w) :
    Calls Tryz.prog 61 #[.pointer none, .string op, .string s, .bool ok] w (NilOut a op s w) := by
  have f1 : _ = some (failV a 1) := (hF 1 (by decide)).2
  have hfl := fun k w => fail_calls (a := a) op s k w
  unfold failV at f1 hfl
  simp only [failG] at f1
  have HF := Lib.hid hfl
  clear hF hfl
  go_enter Tryz.func61, Tryz.ntmps61
  go_wp2_with fail
  refine (HF.out 0 w).mono ?_
  rintro e w1 ⟨v, rfl, hv, hb⟩
  have HV := Lib.hid hv
  clear hv
  go_wp2_with fail
  go_ret
  exact ⟨v, rfl, HV.out, hb⟩
theorem NilOut.then_ {op s : ByteArray} {w w1 w2 : World} {e : Ending} (hb : Below w.heap.size w w1) (h : NilOut a op s w1 e w2) : NilOut a op s w e w2 := by
  obtain ⟨v, h1, h2, h3⟩ := h
  exact ⟨v, h1, h2, Go.Proofs.YtfpgbhimgfdddaaGreatDoor.then_ hb h3⟩
theorem file_nil (op S : ByteArray) (w : World) (hS : S.size ≤ 1073741824) (hB : B0 ≤ w.heap.size) (hF : Fails B0 a w) :
    Calls Tryz.prog 67 #[.pointer none, .string op, .string S] w (NilOut2 a (.pointer none) op S w) := by
  obtain ⟨rn, hrn⟩ : ∃ r, pathB S.data.toList = r := ⟨_, rfl⟩
  have HNM := Lib.hid (path_calls S rn hrn hS w)
  clear hrn
  go_enter Tryz.func67, Tryz.ntmps67
  go_wp2_with fail
  refine HNM.out.mono ?_
  rintro _ w2 ⟨rfl, hB2⟩
  have HRD := Lib.hid (ready_nil (B0 := B0) (a := a) rn op S w2 (hF.below (hB2.mono hB)))
  go_wp2_with fail
  refine HRD.out.mono ?_
  rintro _ w3 ⟨v, rfl, hv3, hb3⟩
  have HFIN := Lib.hid (show NilOut2 a (.pointer none) op S w (.returned (.tuple #[.pointer none, v])) w3 from ⟨v, rfl, hv3, then_ hB2 hb3⟩)
  obtain ⟨q4, rfl, _⟩ := hv3
  go_wp2_with fail
  go_ret2
  exact HFIN.out

-- PRINTED by gen_dsknil.py
set_option maxHeartbeats 1000000 in
theorem append_nil (S : ByteArray) (Ao : Option Addr) (pn pc : Nat) (w : World) (hS : S.size ≤ 1073741824) (hB : B0 ≤ w.heap.size) (hF : Fails B0 a w) :
    Calls Tryz.prog 20 #[.pointer none, .string S, .slice Ao pn pc] w (NilOut a ⟨#[97, 112, 112, 101, 110, 100]⟩ S w) := by
  have HF := Lib.hid (file_nil (a := a) ⟨#[97, 112, 112, 101, 110, 100]⟩ S w hS hB hF)
  go_enter Tryz.func20, Tryz.ntmps20
  go_wp2_with fail
  refine HF.out.mono ?_
  rintro _ w3 ⟨v, rfl, hv3, hb3⟩
  have HFIN := Lib.hid (show NilOut a ⟨#[97, 112, 112, 101, 110, 100]⟩ S w (.returned v) w3 from ⟨v, rfl, hv3, hb3⟩)
  obtain ⟨q4, rfl, _⟩ := hv3
  go_wp2_with fail
  go_ret
  exact HFIN.out
end
end Go.Proofs.YtfpgbhimgfdddaaGreatDoor

/- Layer 3's law: the code's disk and the document's, side by side. -/
namespace Go.Proofs.YtfpgbhimgfdddaaGreatDoor
open Go.RowKit Go.Shelf Go.Maps Go.Sort

/-- What lies below all disks: the failures. -/
structure Env (B0 : Nat) (a : Nat → Addr) (w : World) : Prop where
  f : Fails B0 a w
  g : Fail6 B0 a w
  s : Sents B0 a w
theorem Env.below {B0 : Nat} {a : Nat → Addr} {w w' : World} (h : Env B0 a w) (hb : Below B0 w w') : Env B0 a w' := ⟨h.f.below hb, h.g.below hb, h.s.below hb⟩
section
variable {B0 M : Nat} {a : Nat → Addr} {R R' S S' : Nat → Nat} {A A' : Adr} {B B' : RAdr} {d d' : Ds} {w w' w'' : World}
/-- The code's call is over, the document's not yet. -/
structure Half (B0 : Nat) (a : Nat → Addr) (R : Nat → Nat) (A : Adr) (r : Nat × Ds) (op s : ByteArray) (w : World) (v : Value) (w' : World) : Prop where
  ex : ∃ R' A', ErrV a w' op s r.1 v ∧ CD B0 w' R' A' r.2 ∧ Own R R' w w' ∧ A'.p = A.p
theorem Half.keep {r : Nat × Ds} {op s : ByteArray} {v : Value} (h : Half B0 a R A r op s w v w') {q : Nat} (hq : q < w.heap.size) (h0 : R q = 0) : w'.heap[q]? = w.heap[q]? := by
  obtain ⟨R', A', h1, h2, h3, h4⟩ := h.ex
  exact h3.block q hq h0
theorem Half.of {r : Nat × Ds} {op s : ByteArray} {f : FuncId} {args : Array Value} (h : Calls Tryz.prog f args w (NamesOutF B0 a R A r op s w)) : Calls Tryz.prog f args w fun e w' => ∃ v, e = .returned v ∧ Half B0 a R A r op s w v w' :=
  h.mono fun _ _ ⟨v, R', A', h1, h2, h3, h4, h5, _⟩ => ⟨v, h1, R', A', h2, h3, h4, h5⟩

/-! ### the failures' numbers -/
theorem stepD_le (d : Ds) : (stepD d).1 ≤ 7 := by
  unfold stepD
  repeat' split
  all_goals simp
theorem namesD_le (d : Ds) (s : St) : (namesD d s).1 ≤ 7 := by
  unfold namesD
  have := stepD_le d
  repeat' split
  all_goals first | exact this | simp
theorem removeD_le (d : Ds) (s : Txt) : (removeD d s).1 ≤ 7 := by
  unfold removeD
  have := namesD_le d (.remove s)
  repeat' split
  all_goals first | exact this | simp

/-! ### what a well-formed disk gives the walks -/
theorem WF.nl (h : WF M d) (hM : M ≤ 536870912) : ∀ i, (Go.Proofs.YtfpgbhimgfdddaaGreatDoor.fAt d i).now.length ≤ 1073741824 := fun i => by have := (h.fAt i).now; omega
theorem WF.sl (h : WF M d) (hM : M ≤ 536870912) : ∀ i, (Go.Proofs.YtfpgbhimgfdddaaGreatDoor.fAt d i).steps.length ≤ 1073741824 := fun i => by have := (h.fAt i).sl; omega
theorem WF.usedL (h : WF M d) : ∀ l : List Th, Go.Proofs.YtfpgbhimgfdddaaGreatDoor.usedL d l ≤ l.length * M
  | [] => by simp [Go.Proofs.YtfpgbhimgfdddaaGreatDoor.usedL]
  | x :: l => by
    have h1 := h.usedL l
    have h2 : (if x.dir then 0 else (nowAt d x.at_).length) ≤ M := by
      split
      · omega
      · have := (h.fAt x.at_).now; exact this
    have h3 : Go.Proofs.YtfpgbhimgfdddaaGreatDoor.usedL d (x :: l) = (if x.dir then 0 else (nowAt d x.at_).length) + Go.Proofs.YtfpgbhimgfdddaaGreatDoor.usedL d l := by simp [Go.Proofs.YtfpgbhimgfdddaaGreatDoor.usedL]
    rw [h3, List.length_cons, Nat.add_mul]
    omega
theorem WF.used (h : WF M d) (hM : M ≤ 536870912) : Go.Proofs.YtfpgbhimgfdddaaGreatDoor.usedL d d.things ≤ 4611686018427387904 := by
  have h1 := h.usedL d.things
  have h2 := h.tl
  have h3 : d.things.length * M ≤ 536870912 * 536870912 := Nat.mul_le_mul (by omega) hM
  omega
theorem WF.capl (h : WF M d) : d.cap ≤ 4611686018427387904 := by have := h.cap; omega
end
end Go.Proofs.YtfpgbhimgfdddaaGreatDoor
