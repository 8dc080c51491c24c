/- Merged (what the claim wants of): DskListB, StgA, Builder, RdkWalksJ, RdkWalksN, RdkWalksO, RdkWalksH, RdkWalksK, DskLaw, DskStep. -/
import Derived.Test.YtfpgbhimgfdddaaGreatDoorWak13
import Derived.Test.YtfpgbhimgfdddaaGreatDoorWak01
import Derived.Shelf.Strings.BuilderK
import Derived.Test.YtfpgbhimgfdddaaGreatDoorProg
import Derived.Test.YtfpgbhimgfdddaaGreatDoorWak12
import Derived.Test.YtfpgbhimgfdddaaGreatDoorWak11
set_option linter.unusedVariables false
set_option linter.unusedSimpArgs false
/- The walks of layer 3 (disk): List of a directory. -/
namespace Go.Proofs.YtfpgbhimgfdddaaGreatDoor
open Go.RowKit Go.Shelf Go.Maps Go.Sort
attribute [local go_sem ↓] Go.wp_at_zero Go.wp_at_succ
attribute [local go_sem] Later.cell Later.frozen

section
variable {B0 : Nat} {a : Nat → Addr} {R : Nat → Nat} {A : Adr} {d : Ds}
/-- The length of the file s in the directory. -/
def lenIn (d : Ds) (dir s : Txt) : Nat := match fileT d.things (dir ++ [47] ++ s) with | .ok i => (nowAt d i).length | .error _ => 0
theorem findT_mem {l : List Th} (h : (l.map Th.path).Nodup) {x : Th} (hx : x ∈ l) : findT l x.path = some x := by
  unfold findT
  cases e : l.find? (fun y => y.path == x.path) with
  | none =>
    rw [List.find?_eq_none] at e
    have := e x hx
    simp at this
  | some y =>
    have h1 := List.find?_some e
    have h2 := List.mem_of_find?_eq_some e
    rw [path_one h h2 hx (by simpa using h1)]
theorem lenIn_of {n : Nat} (hw : TW n d.things) {dir s : Txt} {x : Th} (hx : x ∈ d.things) (hd : x.dir = false) (hp : x.path = dir ++ [47] ++ s) : lenIn d dir s = (nowAt d x.at_).length := by
  unfold lenIn fileT
  rw [← hp, findT_mem hw.nodup hx]
  simp [hd]
set_option maxRecDepth 100000 in
set_option maxHeartbeats 8000000 in
theorem list_dir (S : ByteArray) (hS0 : S.data.toList ≠ []) (w : World) (h : CD B0 w R A d) (hf : Fit d) (hS : S.size ≤ 1073741824) (hB : B0 ≤ w.heap.size) (hF : Fails B0 a w) (hnl : ∀ i, (fAt d i).now.length ≤ 1073741824) :
    Calls Tryz.prog 29 #[.pointer (some ⟨A.p, 0, none⟩), .string S] w (ListOut a (listD d S.data.toList) S w) := by
  obtain ⟨i0, hi0, hz0, hz1, hz2⟩ := info_parts info_cent
  obtain ⟨p, hp⟩ : ∃ p, A.p = p := ⟨_, rfl⟩
  have HP := Lib.hid hp
  have hoff : w.cell? ⟨p, 6, none⟩ = some (.bool d.off) := by rw [← hp]; exact Blk.cell h.blk 6
  obtain ⟨nb, hnb⟩ : ∃ b, nameB S.data.toList = b := ⟨_, rfl⟩
  obtain ⟨k, hk⟩ : ∃ k, readyR d.off nb = k := ⟨_, rfl⟩
  have HK := Lib.hid hk
  have HRD := Lib.hid (ready_calls (B0 := B0) (a := a) p d.off nb ⟨#[108, 105, 115, 116]⟩ S k hk w hoff hF)
  have HNM := Lib.hid (fun w => name_calls S nb hnb hS w)
  obtain ⟨LD, hLD⟩ : ∃ r, listD d S.data.toList = r := ⟨_, rfl⟩
  have hld : LD = if d.off = true then ([], 1) else if nb = false then ([], 2) else if isT d.things S.data.toList = 1 then ([], 3) else if isT d.things S.data.toList = 0 then ([], 4) else (sortE (entD d S.data.toList), 0) := by
    rw [← hLD]
    unfold listD
    rw [hnb]
    simp only [ne_eq, hS0, not_false_eq_true, true_and]
  have HLD := Lib.hid hld
  have HS0 := Lib.hid hS0
  have hz0' : 0 < S.size := by
    rcases Nat.eq_zero_or_pos S.size with h0 | h0
    · exact absurd (List.eq_nil_of_length_eq_zero (by rw [text_size3]; exact h0)) hS0
    · exact h0
  have hSne : S ≠ ⟨#[]⟩ := fun e => hS0 (by rw [e])
  obtain ⟨s1, s2, s3, s4⟩ := ne_facts hSne
  have s5 : S.toList.isEmpty = false := by rw [empty_size3]; exact decide_eq_false (by omega)
  have s6 : S.toList ≠ [] := fun e => by rw [e] at s5; simp at s5
  have s7 : decide (S.toList = []) = false := by simpa using s6
  rw [hLD, hp]
  have HNL := Lib.hid hnl
  clear hk hp hoff hLD hld hnl hnb hS0 hSne s6
  go_enter Tryz.func29, Tryz.ntmps29
  go_wp2_with fail
  refine (HNM.out _).mono ?_
  rintro _ w1 ⟨rfl, rfl⟩
  go_wp2_with fail
  refine HRD.out.mono ?_
  rintro _ w1 ⟨v, rfl, hv1, hb1⟩
  cases k with
  | succ k =>
    have hfin : ListOut a LD S w (.returned (.tuple #[.slice none 0 0, v])) w1 := by
      have e1 : LD = ([], k + 1) := by
        have hk := HK.out
        unfold readyR at hk
        rw [HLD.out, ← hk]
        cases ho : d.off with
        | true => rfl
        | false =>
          rw [ho] at hk
          cases nb with
          | true => simp at hk
          | false => rfl
      rw [e1]
      exact ListOut.bad hv1 hb1
    obtain ⟨q4, rfl, _⟩ := hv1
    have HFIN := Lib.hid hfin
    clear hfin
    go_wp2_with fail
    go_ret2
    exact HFIN.out
  | zero =>
    obtain rfl : v = .nilIface := hv1
    obtain ⟨ho, hn⟩ : d.off = false ∧ nb = true := by
      have hk := HK.out
      unfold readyR at hk
      cases ho : d.off with
      | true => rw [ho] at hk; simp at hk
      | false =>
        rw [ho] at hk
        cases nb with
        | true => exact ⟨rfl, rfl⟩
        | false => simp at hk
    have hld : LD = if isT d.things S.data.toList = 1 then ([], 3) else if isT d.things S.data.toList = 0 then ([], 4) else (sortE (entD d S.data.toList), 0) := by rw [HLD.out, ho, hn]; rfl
    have HLE := Lib.hid hld
    have hcd1 := h.below hb1
    have hF1 := hF.below (hb1.mono hB)
    obtain ⟨P, hP, hlf0⟩ := look_fil hcd1 hf S hS
    have hlf := hlf0 ⟨w1, Below.refl _ _⟩
    obtain ⟨md, hmd⟩ : ∃ x, A.md = x := ⟨_, rfl⟩
    obtain ⟨mf, hmf⟩ : ∃ x, A.mf = x := ⟨_, rfl⟩
    have c0 : w1.cell? ⟨p, 0, none⟩ = some (.map (some md)) := by rw [← HP.out, ← hmd]; exact Blk.cell hcd1.blk 0
    have c1 : w1.cell? ⟨p, 1, none⟩ = some (.map (some mf)) := by rw [← HP.out, ← hmf]; exact Blk.cell hcd1.blk 1
    rw [hmf] at hlf
    have hsf : SM w1 mf (filF A.φ d.things) := by rw [← hmf]; exact hcd1.files.1
    have f3 : _ = some (failV a 3) := (hF1 3 (by decide)).2
    have f4 : _ = some (failV a 4) := (hF1 4 (by decide)).2
    unfold failV at f3 f4
    simp only [failG] at f3 f4
    have HCD1 := Lib.hid hcd1
    have HB1 := Lib.hid hb1
    have HPP := Lib.hid hP
    have htl := hf.tl
    have hpl : p < w1.heap.size := lt_of_cell c0
    have HMD := Lib.hid hmd
    have hlfw : (Instr.lookup 120 (.map (some mf)) (.string S) false).run Tryz.prog w1 = .ok (.pointer P) w1 := hlf
    clear hcd1 hF1 hlf0 hlf hmd hmf ho hn hld hb1 hP
    rcases isT_range d.things S.data.toList with h0 | h0 | h0
    · obtain rfl : P = none := HPP.out.2 (by rw [h0]; omega)
      have hlk : (Instr.lookup 119 (.map (some md)) (.string S) false).run Tryz.prog w1 = .ok (.int .i64 0) w1 := by
        rw [← HMD.out]
        exact look_dir HCD1.out hf S hS 0 (by rw [h0]; rfl) ⟨w1, Below.refl _ _⟩
      have hfl := fail_calls (a := a) ⟨#[108, 105, 115, 116]⟩ S 3 w1
      unfold failV at hfl
      have HFL := Lib.hid hfl
      have hld : LD = ([], 4) := by rw [HLE.out, h0]; rfl
      have HL4 := Lib.hid hld
      clear hfl hld h0
      go_wp2_with fail
      refine HFL.out.mono ?_
      rintro e w5 ⟨v, rfl, hv5, hb5⟩
      have hfin : ListOut a LD S w (.returned (.tuple #[.slice none 0 0, v])) w5 := by rw [HL4.out]; exact ListOut.bad hv5 (then_ HB1.out hb5)
      have HFIN := Lib.hid hfin
      clear hfin hv5
      go_wp2_with fail
      go_ret2
      exact HFIN.out
    · obtain ⟨P', rfl⟩ : ∃ P', P = some P' := by
        cases P with
        | none => exact absurd h0 (HPP.out.1 rfl)
        | some P' => exact ⟨P', rfl⟩
      have hfl := fail_calls (a := a) ⟨#[108, 105, 115, 116]⟩ S 2 w1
      unfold failV at hfl
      have HFL := Lib.hid hfl
      have hld : LD = ([], 3) := by rw [HLE.out, h0]; rfl
      have HL3 := Lib.hid hld
      clear hfl hld h0
      go_wp2_with fail
      refine HFL.out.mono ?_
      rintro e w5 ⟨v, rfl, hv5, hb5⟩
      have hfin : ListOut a LD S w (.returned (.tuple #[.slice none 0 0, v])) w5 := by rw [HL3.out]; exact ListOut.bad hv5 (then_ HB1.out hb5)
      have HFIN := Lib.hid hfin
      clear hfin hv5
      go_wp2_with fail
      go_ret2
      exact HFIN.out
    · obtain rfl : P = none := HPP.out.2 (by rw [h0]; omega)
      have hlk : (Instr.lookup 119 (.map (some md)) (.string S) false).run Tryz.prog w1 = .ok (.int .i64 1) w1 := by
        rw [← HMD.out]
        exact look_dir HCD1.out hf S hS 1 (by rw [h0]; rfl) ⟨w1, Below.refl _ _⟩
      have hld : LD = (sortE (entD d S.data.toList), 0) := by rw [HLE.out, h0]; rfl
      have HL0 := Lib.hid hld
      have HWI := Lib.hid (within_calls (some md) (some mf) mf rfl (filF A.φ d.things) S w1 hsf (d.things.map Th.path) (fun x hx => filF_in hx) (by rw [List.length_map]; omega) hS (paths_short hf.tw))
      have HSF := Lib.hid hsf
      clear hld h0 hsf f3 f4
      go_upto_block 0 with fail
      go_cut [7] (fun s7 wz => ∃ v7 out, v7 = s7 ∧ EntRow wz w.heap.size v7 out ∧ out.Perm (entD d S.data.toList) ∧ Below w.heap.size w wz)
      case first =>
        go_wp2_with fail
        refine HWI.out.mono ?_
        rintro _ w2 ⟨Ab, cb, bs, rfl, hbs, hbc, hasc, hmem, hb2⟩
        have hnd : bs.Nodup := hasc.imp (fun {a b} h e => by subst e; exact List.lt_irrefl _ h)
        have hbl : bs.length ≤ 1073741824 := by
          have := nodup_len (bs.map fun s => S.data.toList ++ [47] ++ s) (d.things.map Th.path) (by
            rw [List.nodup_iff_pairwise_ne, List.pairwise_map]
            exact hnd.imp (fun {a b} h e => h (app_cancel e))) (fun z hz => by
            obtain ⟨s, hs, rfl⟩ := List.mem_map.1 hz
            exact filF_in (φ := A.φ) ((hmem s).1 hs))
          rw [List.length_map, List.length_map] at this
          omega
        have hperm : (bs.map fun s => (⟨s, false, lenIn d S.data.toList s⟩ : En)).Perm (entD d S.data.toList) := dir_perm hf.tw HS0.out hnd (lenIn d S.data.toList) (fun s => by
          rw [hmem s, filF_one hf.tw, isT_one hf.tw.nodup]) (fun x hx s hd hp => lenIn_of hf.tw hx hd hp)
        obtain ⟨KN, hKN⟩ : ∃ n, bs.length = n := ⟨_, rfl⟩
        rw [hKN] at hbs hbc hbl ⊢
        have hB2 : Below w.heap.size w w2 := HB1.out.trans (hb2.mono HB1.out.size)
        have HBS := Lib.hid hbs
        have HMEM := Lib.hid hmem
        have HPM := Lib.hid hperm
        have HKN := Lib.hid hKN
        have HCD2 := Lib.hid (HCD1.out.below hb2)
        have HSF2 := Lib.hid (HSF.out.below hb2 HSF.out.lt)
        have HB2 := Lib.hid hB2
        have d1 : w2.cell? ⟨p, 1, none⟩ = some (.map (some mf)) := (hb2.cell (p := ⟨p, 1, none⟩) hpl).trans c1
        have hmfl : mf < w2.heap.size := HSF2.out.lt
        clear hbs hbc hasc hmem hb2 hnd hperm hKN hB2 hlk hlfw c0 c1
        go_wp2_with fail
        go_loopg [7, 32] KN (fun g s7 s32 wr => ∃ (i : Nat) (v7 : Value), v7 = s7 ∧ i + g = KN ∧ s32 = .int .i64 (i : Int) ∧ EntRow wr w2.heap.size v7 ((bs.take i).map fun s => (⟨s, false, lenIn d S.data.toList s⟩ : En)) ∧ Below w2.heap.size w2 wr)
        case atStart => exact ⟨0, _, rfl, by omega, rfl, World.ownsRow_nil _ _ _ _, Below.refl _ _⟩
        case round =>
          obtain ⟨i, v7, rfl, hig, rfl, hrow, hB⟩ := hrel
          have HIG := Lib.hid hig
          have HROW := Lib.hid hrow
          clear hig
          by_cases hi : i < KN
          · have el : decide ((i : Int) < (KN : Int)) = true := by simp; omega
            have el' : decide (i < KN) = true := by simp; omega
            have hil : i < bs.length := by rw [HKN.out]; exact hi
            obtain ⟨bk, ok, hAb, hbk, kk⟩ := HBS.out.at_ hi
            have mk := (hB.cell (p := ⟨bk, ok + i, none⟩) hbk).trans kk
            subst hAb
            obtain ⟨s, hs⟩ : ∃ s, bs[i]! = s := ⟨_, rfl⟩
            have hsm : s ∈ bs := by rw [← hs, getElem!_pos bs i hil]; exact List.getElem_mem hil
            rw [hs] at mk
            obtain ⟨v, hfv⟩ := Option.isSome_iff_exists.1 ((HMEM.out s).1 hsm)
            obtain ⟨t, htm, htd, htp, rfl⟩ := (filF_iff hf.tw.nodup).1 hfv
            have hlen := lenIn_of hf.tw htm htd htp
            have htz : t.path.length ≤ 1073741824 := paths_short hf.tw t.path (List.mem_map.2 ⟨t, htm, rfl⟩)
            have hii := hf.tw.ats t htm htd
            obtain ⟨u1, hblk1, _⟩ := file_at HCD2.out hii
            obtain ⟨g, hg⟩ : ∃ g, A.φ[t.at_]?.getD 0 = g := ⟨_, rfl⟩
            unfold fptr at hfv
            rw [hg] at hblk1 hfv
            obtain ⟨T, hT⟩ : ∃ T : ByteArray, (⟨(fAt d t.at_).now.toArray⟩ : ByteArray) = T := ⟨_, rfl⟩
            have hTs : (nowAt d t.at_).length = T.size := by rw [← hT]; rfl
            have hTz : T.size ≤ 1073741824 := by rw [← hTs]; exact HNL.out t.at_
            have hblk2 := hblk1.below hB hblk1.lt
            have f0 : wr.cell? ⟨g, 0, none⟩ = some (.string T) := by rw [← hT]; exact hblk2.cell 0
            obtain ⟨N, hN⟩ : ∃ N : ByteArray, (⟨s.toArray⟩ : ByteArray) = N := ⟨_, rfl⟩
            have hNl : N.data.toList = s := by rw [← hN]
            unfold txtV at mk
            rw [hN] at mk
            have hcat : (S ++ (⟨#[47]⟩ : ByteArray) ++ N).data.toList = S.data.toList ++ [47] ++ s := by rw [← hNl]; simp
            have hcz : S.size + 1 + N.size ≤ 1073741824 := by
              have h1 := congrArg List.length htp
              simp only [List.length_append, text_size3, List.length_singleton] at h1
              have h2 := congrArg List.length hNl
              rw [text_size3] at h2
              omega
            have hsfr := HSF2.out.below hB HSF2.out.lt
            have hlk : (Instr.lookup 120 (.map (some mf)) (.string (S ++ (⟨#[47]⟩ : ByteArray) ++ N)) false).run Tryz.prog wr = .ok (.pointer (some ⟨g, 0, none⟩)) wr := by
              have := SMap.look hsfr Tryz.underlying9 Tryz.underlying120 (zeroFl wr) (s := S ++ (⟨#[47]⟩ : ByteArray) ++ N) (by rw [← text_size3, hcat, ← htp]; unfold maxLen; omega)
              rw [hcat, hfv] at this
              exact this
            have e1 : wr.cell? ⟨p, 1, none⟩ = some (.map (some mf)) := (hB.cell (p := ⟨p, 1, none⟩) (lt_of_cell d1)).trans d1
            have htk : (bs.take (i + 1)).map (fun s => (⟨s, false, lenIn d S.data.toList s⟩ : En)) = (bs.take i).map (fun s => (⟨s, false, lenIn d S.data.toList s⟩ : En)) ++ [⟨s, false, T.size⟩] := by
              rw [List.take_succ_eq_append_getElem hil, List.map_append, ← hTs, ← hlen, ← hs, getElem!_pos bs i hil]
              rfl
            obtain ⟨out, hout⟩ : ∃ o, (bs.take i).map (fun s => (⟨s, false, lenIn d S.data.toList s⟩ : En)) = o := ⟨_, rfl⟩
            have hol : out.length = i := by rw [← hout, List.length_map, List.length_take]; omega
            rw [hout] at hrow htk
            have hrow2 : wr.ownsRow w2.heap.size 167 3 v7 i (out.flatMap encE) := by have := hrow; unfold EntRow at this; rw [hol] at this; exact this
            have henc : (out ++ [(⟨s, false, T.size⟩ : En)]).flatMap encE = out.flatMap encE ++ [.string N, .bool false, .int .i64 (T.size : Int)] := by
              rw [List.flatMap_append, ← hNl]
              simp [encE, txtV_self]
            have HENC := Lib.hid henc
            have HTK := Lib.hid htk
            have HOL := Lib.hid hol
            have HB := Lib.hid hB
            have hbz : w2.heap.size ≤ wr.heap.size := hB.size
            have hpr : p < wr.heap.size := lt_of_cell e1
            clear hs hsm hfv htm htd htp hlen htz hii hblk1 hblk2 hg hT hTs hN hNl hcat hsfr htk hout hol henc hrow kk hB
            go_wp2_with (at_builtin; refine wpList_append_own_at _ rfl _ _ 73 rfl w2.heap.size 167 i0 (.agg #[.string ⟨#[]⟩, .bool false, .int .i64 0]) 3 32 Tryz.underlying73 hi0 hz0 hz1 hz2 rfl (by decide) _ _ _ rfl (hrow2.alloc _) ⟨wr.heap.size, 0, none⟩ 1 1 [.string N, .bool false, .int .i64 (T.size : Int)] rfl rfl ?p1 ?p2 ?p3 ?p4 ?p5 ?_)
            case p1 => exact news_of_blk (l := [.string N, .bool false, .int .i64 (T.size : Int)]) (Blk.new wr _ _)
            case p2 => intro u hu; simp at hu; rcases hu with rfl | rfl | rfl <;> rfl
            case p3 => unfold maxLen; omega
            case p4 => omega
            case p5 => simp; omega
            intro v' w4 hown' hgrow _ _
            have hall : wr.grownBy w4 v7.ownBlock := (World.grownBy_alloc wr _ _).trans hgrow
            have hB4 : Below w2.heap.size w2 w4 := HB.out.trans ⟨hall.os, hall.tape, hall.output, hall.size, fun j hj => hall.block j (by omega) (fun e => by have := (World.ownsRow.lt hrow2 j e.symm).1; omega)⟩
            have hrow4 : EntRow w4 w2.heap.size v' ((bs.take (i + 1)).map fun s => (⟨s, false, lenIn d S.data.toList s⟩ : En)) := by
              unfold EntRow
              rw [HTK.out, HENC.out, List.length_append, HOL.out]
              exact hown'
            clear hown' hgrow hall hrow2 hlk mk f0 e1
            go_wp2_with fail
            go_roundg (gk - 1)
            case measure => have := HIG.out; omega
            case rel => exact ⟨i + 1, _, rfl, by have := HIG.out; omega, by go_num, hrow4, hB4⟩
          · have el : decide ((i : Int) < (KN : Int)) = false := by simp; omega
            have el' : decide (i < KN) = false := by simp; omega
            have htk : bs.take i = bs := List.take_of_length_le (by rw [HKN.out]; omega)
            rw [htk] at hrow
            have HR2 := Lib.hid (show EntRow wr w.heap.size v7 (bs.map fun s => (⟨s, false, lenIn d S.data.toList s⟩ : En)) from World.ownsRow.mono hrow HB2.out.size)
            have HBF := Lib.hid (HB2.out.trans (hB.mono HB2.out.size))
            clear htk hrow hB
            go_wp2_with fail
            go_meet
            exact ⟨v7, _, rfl, HR2.out, HPM.out, HBF.out⟩
      case rest =>
        obtain ⟨v7, out, rfl, hrow, hperm, hB⟩ := hcut
        obtain ⟨w7, rfl⟩ : ∃ x, x = wc := ⟨_, rfl⟩
        have hol : out.length ≤ 1073741824 := by
          rw [hperm.length_eq, entD_of]
          have := List.length_filterMap_le (entOf d S.data.toList) d.things
          omega
        have HSO := Lib.hid (sortany_calls out w.heap.size v7 w7 hrow hol)
        have HROW := Lib.hid hrow
        have HPM := Lib.hid hperm
        have HB := Lib.hid hB
        clear hrow hperm hB c0 c1 hol hlk hlfw
        go_wp2_with fail
        refine HSO.out.mono ?_
        rintro e w8 ⟨rfl, l', hp', hs', hrow8, hg8⟩
        have hb8 : Below w.heap.size w w8 := by
          have hb := HB.out
          exact hb.trans ⟨hg8.os, hg8.tape, hg8.output, hg8.size, fun k hk => hg8.block k (by have := hb.size; omega) (fun e => by have := (World.ownsRow.lt HROW.out k e.symm).1; omega)⟩
        have hfin : ListOut a LD S w (.returned (.tuple #[v7, .nilIface])) w8 := by
          rw [HL0.out, ← listD_ok hf.tw (hp'.trans HPM.out) hs']
          exact ⟨_, _, rfl, rfl, hrow8, hb8⟩
        have HFIN := Lib.hid hfin
        clear hfin hb8 hrow8 hg8 hp' hs'
        go_wp2_with fail
        go_ret2
        exact HFIN.out
end
end Go.Proofs.YtfpgbhimgfdddaaGreatDoor

/- EncPlain, CrcPlain, StoPlain, StoPlain2, StoLawA, StoLawB, StoLawC, StoPlain3 together. -/
namespace Go.Proofs.YtfpgbhimgfdddaaGreatDoor
section
/-! ### numbers -/
def uintF : Nat → Nat → List UInt8
  | 0, v => [UInt8.ofNat v]
  | f + 1, v => if 127 < v then UInt8.ofNat (v % 128 + 128) :: uintF f (v / 128) else [UInt8.ofNat v]
/-- The one form of a number. -/
def uintT (v : Nat) : List UInt8 := uintF 10 v

/-! ### reading numbers -/

/-! ### texts -/
end

section
/-! ### numbers with a sign -/
def zig (v : Int) : Nat := if 0 ≤ v then (2 * v).toNat else (-2 * v - 1).toNat
def intT (v : Int) : List UInt8 := uintT (zig v)

/-! ### sums -/
def nibs : List Nat := [0x00000000, 0x105ec76f, 0x20bd8ede, 0x30e349b1, 0x417b1dbc, 0x5125dad3, 0x61c69362, 0x7198540d, 0x82f63b78, 0x92a8fc17, 0xa24bb5a6, 0xb21572c9, 0xc38d26c4, 0xd3d3e1ab, 0xe330a81a, 0xf36e6f75]
def nibN (c : Nat) : Nat := nibs.getD (c % 16) 0 ^^^ (c / 16)
def crcB (c : Nat) (b : UInt8) : Nat := nibN (nibN (c ^^^ b.toNat))
def crcF (c : Nat) (l : List UInt8) : Nat := l.foldl crcB c
def crcL (l : List UInt8) : Nat := crcF 4294967295 l ^^^ 4294967295
theorem nibs_lt : ∀ i, nibs.getD i 0 < 4294967296 := by
  intro i
  by_cases h : i < 16
  · revert i
    decide
  · have : nibs.length ≤ i := by simp [nibs]; omega
    rw [List.getD_eq_getElem?_getD, List.getElem?_eq_none this]
    decide
theorem xor_lt32 {a b : Nat} (ha : a < 4294967296) (hb : b < 4294967296) : a ^^^ b < 4294967296 := Nat.xor_lt_two_pow (n := 32) ha hb
theorem nibN_lt {c : Nat} (h : c < 4294967296) : nibN c < 4294967296 := xor_lt32 (nibs_lt _) (by omega)
theorem crcB_lt {c : Nat} (h : c < 4294967296) (b : UInt8) : crcB c b < 4294967296 := nibN_lt (nibN_lt (xor_lt32 h (by have := UInt8.toNat_lt b; omega)))
theorem crcF_lt : ∀ (l : List UInt8) {c : Nat}, c < 4294967296 → crcF c l < 4294967296
  | [], _, h => h
  | b :: l, _, h => crcF_lt l (crcB_lt h b)
theorem crcL_lt (l : List UInt8) : crcL l < 4294967296 := xor_lt32 (crcF_lt l (by decide)) (by decide)
theorem crcF_append (c : Nat) (l m : List UInt8) : crcF c (l ++ m) = crcF (crcF c l) m := by unfold crcF; rw [List.foldl_append]
theorem crcF_snoc (c : Nat) (l : List UInt8) (b : UInt8) : crcF c (l ++ [b]) = crcB (crcF c l) b := by rw [crcF_append]; rfl

/-! ### four bytes -/
def fourT (v : Nat) : List UInt8 := [UInt8.ofNat v, UInt8.ofNat (v / 256), UInt8.ofNat (v / 65536), UInt8.ofNat (v / 16777216)]
def numT (l : List UInt8) : Nat := match l with | a :: b :: c :: d :: _ => a.toNat + 256 * b.toNat + 65536 * c.toNat + 16777216 * d.toNat | _ => 0
theorem fourT_len (v : Nat) : (fourT v).length = 4 := rfl
theorem numT_four {v : Nat} (h : v < 4294967296) (r : List UInt8) : numT (fourT v ++ r) = v := by
  simp only [fourT, List.cons_append, numT, UInt8.toNat_ofNat']
  omega

/-! ### sealed texts -/
end

section
structure Inf where
  id : Int
  res : Int
  frm : Int
  to_ : Int
  bytes : Int
deriving DecidableEq
instance : Inhabited Inf := ⟨⟨0, 0, 0, 0, 0⟩⟩
def Inf.nums (x : Inf) : List Int := [x.id, x.res, x.frm, x.to_, x.bytes]
/-- A manifest. -/
structure Man where
  w0 : Int
  w1 : Int
  w2 : Int
  next : Int
  log : Int
  blocks : List Inf
  cut : Int
  r0 : Int
  r1 : Int
  r2 : Int
  l0 : Int
  l1 : Int
  l2 : Int
deriving DecidableEq
def Man.zero : Man := ⟨0, 0, 0, 0, 0, [], 0, 0, 0, 0, 0, 0, 0⟩
/-- All its numbers but its blocks', in the order of the bytes; without next and log. -/
def Man.tens (m : Man) : List Int := [m.w0, m.r0, m.l0, m.w1, m.r1, m.l1, m.w2, m.r2, m.l2, m.cut]
def Man.nums (m : Man) : List Int := m.tens ++ [m.next, m.log, (m.blocks.length : Int)] ++ m.blocks.flatMap Inf.nums
def i64 (v : Int) : Prop := -9223372036854775808 ≤ v ∧ v ≤ 9223372036854775807
instance (v : Int) : Decidable (i64 v) := by unfold i64; infer_instance
def timeB (t : Int) : Bool := decide (0 ≤ t) && decide (t ≤ 1125899906842625)
def widthB (t : Int) : Bool := decide (1 ≤ t) && decide (t ≤ 1099511627776)
def infB (next : Int) (x : Inf) : Bool := decide (1 ≤ x.id) && decide (x.id < next) && decide (0 ≤ x.res) && decide (x.res ≤ 2) && decide (0 ≤ x.frm) && decide (x.frm < x.to_) && decide (x.to_ ≤ 1125899906842625) && decide (0 ≤ x.bytes)
def riseB : List Inf → Bool
  | x :: y :: l => decide (x.id < y.id) && riseB (y :: l)
  | _ => true
def Man.fit (m : Man) : Bool :=
  widthB m.w0 && widthB m.w1 && widthB m.w2 && timeB m.r0 && timeB m.r1 && timeB m.r2 && timeB m.l0 && timeB m.l1 && timeB m.l2 && timeB m.cut &&
  decide (1 ≤ m.next) && decide (m.next ≤ 99999999) && decide (1 ≤ m.log) && decide (m.log ≤ 99999999) && m.blocks.all (infB m.next) && riseB m.blocks
def Man.body (m : Man) : List UInt8 := m.nums.flatMap intT

/-! ### reading -/

end

section
def sMeta : Txt := [47, 109, 101, 116, 97]
def sChunks : Txt := [47, 99, 104, 117, 110, 107, 115]
def sIndex : Txt := [47, 105, 110, 100, 101, 120]
/-- A block's three files. -/
structure Fs3 where
  a : Txt
  b : Txt
  c : Txt
deriving DecidableEq
def Fs3.none : Fs3 := ⟨[], [], []⟩
def Fs3.len (f : Fs3) : Nat := f.a.length + f.b.length + f.c.length
end

section
/-! ### names and paths -/
theorem nameC_slash {b : UInt8} (h : nameC b = true) : b ≠ 47 := by
  rintro rfl
  exact absurd h (by decide)
theorem sslash_none : ∀ {s : Txt}, s.all nameC = true → slashAt s = none
  | [], _ => rfl
  | b :: s, h => by
    rw [List.all_cons, Bool.and_eq_true] at h
    rw [slashAt, if_neg (nameC_slash h.1), sslash_none h.2]
    rfl
theorem snameB_slash {s : Txt} (h : nameB s = true) : slashAt s = none := by
  unfold nameB at h
  simp only [Bool.and_eq_true] at h
  exact sslash_none h.1.1
theorem slash_at : ∀ {s : Txt} (r : Txt), slashAt s = none → slashAt (s ++ 47 :: r) = some s.length
  | [], r, _ => rfl
  | b :: s, r, h => by
    rw [slashAt] at h
    split at h
    · cases h
    · rename_i hb
      have h2 : slashAt s = none := by cases hs : slashAt s with | none => rfl | some k => rw [hs] at h; cases h
      rw [List.cons_append, slashAt, if_neg hb, slash_at r h2]
      rfl
/-- Two names of one length, and what stands behind a slash. -/
structure Two2 (t b : Txt) : Prop where
  tn : nameB t = true
  bn : nameB b = true
  ne : t ≠ b
  len : t.length = b.length
/-- A rest behind a name: a slash and a name. -/
structure Rest (m : Txt) : Prop where
  ex : ∃ r, m = 47 :: r ∧ nameB r = true
section
variable {t b m m2 : Txt}
theorem Rest.slash (h : Rest m) (ht : nameB t = true) : slashAt (t ++ m) = some t.length := by
  obtain ⟨r, rfl, _⟩ := h.ex
  exact slash_at r (snameB_slash ht)
theorem Rest.path (h : Rest m) (ht : nameB t = true) : pathB (t ++ m) = true := by
  unfold pathB
  rw [h.slash ht]
  obtain ⟨r, rfl, hr⟩ := h.ex
  simp only [List.take_left]
  have e : (t ++ 47 :: r).drop (t.length + 1) = r := by rw [← List.drop_drop, List.drop_left]; rfl
  rw [ht, e]
  rw [hr]
  rfl
end

/-! ### calls that go well, but for the power -/
def offD (d : Ds) : Ds := { d with await := 0, off := true }
/-- One step more is taken. -/
def tickD (d : Ds) : Ds := { d with await := d.await - 1 }
section
variable {d : Ds} {s s2 : Txt} {i : Nat}
theorem step_ite (d : Ds) : stepD d = if d.await = 1 then (1, offD d) else (0, tickD d) := by
  unfold stepD offD tickD
  by_cases h0 : d.await = 0
  · rw [if_pos h0, if_neg (by omega), h0]
    simp only [Nat.zero_sub]
    rw [← h0]
  · rw [if_neg h0]
theorem names_ite (st : St) : namesD d st = if d.await = 1 then (1, offD d) else (0, { tickD d with things := applyS d.things st, steps := d.steps ++ [st] }) := by
  unfold namesD
  rw [step_ite]
  by_cases h : d.await = 1
  · simp [h]
  · simp [h]
theorem mkdir_ok (ho : d.off = false) (hn : nameB s = true) (hi : isT d.things s = 0) : mkdirD d s = namesD d (.mkdir s) := by
  unfold mkdirD
  rw [if_neg (by rw [ho]; simp), if_neg (by rw [hn]; simp), if_neg (by rw [hi]; simp)]
theorem create_ok (ho : d.off = false) (hp : pathB s = true) (hpar : parentB d.things s = true) (hi : isT d.things s = 0) :
    createD d s = if d.await = 1 then (1, offD d) else (0, { tickD d with things := d.things ++ [⟨s, false, d.files.length⟩], steps := d.steps ++ [.create s d.files.length], files := d.files ++ [⟨[], [], []⟩] }) := by
  unfold createD
  rw [if_neg (by rw [ho]; simp), if_neg (by rw [hp]; simp), if_neg (by rw [hpar]; simp), if_neg (by rw [hi]; simp), names_ite, step_ite]
  by_cases h : d.await = 1
  · simp [h]
  · simp [h, applyS]
theorem file_ok (ho : d.off = false) (hp : pathB s = true) (hf : findT d.things s = some ⟨s, false, i⟩) : fileD d s = .ok i := by
  unfold fileD fileT
  rw [if_neg (by rw [ho]; simp), if_neg (by rw [hp]; simp), hf]
  simp
theorem append_ok (hf : fileD d s = .ok i) (x : Txt) (hc : usedD d + x.length ≤ d.cap) :
    appendD d s x = if d.await = 1 then (1, offD d) else (0, setF (tickD d) i { fAt d i with now := (fAt d i).now ++ x, steps := (fAt d i).steps ++ [⟨x, false, 0⟩] }) := by
  unfold appendD
  rw [hf]
  simp only
  rw [if_neg (by omega), step_ite]
  by_cases h : d.await = 1
  · simp [h]
  · simp [h]
theorem sync_ok (hf : fileD d s = .ok i) : syncD d s = if d.await = 1 then (1, offD d) else (0, setF (tickD d) i ⟨(fAt d i).now, (fAt d i).now, []⟩) := by
  unfold syncD
  rw [hf]
  simp only
  rw [step_ite]
  by_cases h : d.await = 1
  · simp [h]
  · simp [h]
theorem syncNames_ok (ho : d.off = false) : syncNamesD d = if d.await = 1 then (1, offD d) else (0, { tickD d with safe := d.things, steps := [] }) := by
  unfold syncNamesD
  rw [if_neg (by rw [ho]; simp), step_ite]
  by_cases h : d.await = 1
  · simp [h]
  · simp [h]
end

/-! ### one call behind the other -/

/-! ### the things of a block -/
def thT (t : Txt) (q : Nat) : List Th := [⟨t, true, 0⟩, ⟨t ++ sMeta, false, q⟩, ⟨t ++ sChunks, false, q + 1⟩, ⟨t ++ sIndex, false, q + 2⟩]
/-- No thing of these begins with t. -/
def NoT (t : Txt) (L : List Th) : Prop := ∀ x ∈ L, t.isPrefixOf x.path = false
theorem find_no {t : Txt} {L : List Th} (h : NoT t L) (m : Txt) : findT L (t ++ m) = none := by
  unfold findT
  rw [List.find?_eq_none]
  intro x hx hp
  have hp : x.path = t ++ m := by simpa using hp
  have := h x hx
  rw [hp] at this
  have h2 : t.isPrefixOf (t ++ m) = true := List.isPrefixOf_iff_prefix.2 (List.prefix_append _ _)
  rw [h2] at this
  cases this
theorem find_app {t : Txt} {L : List Th} (h : NoT t L) (R : List Th) (m : Txt) : findT (L ++ R) (t ++ m) = findT R (t ++ m) := by
  have h2 := find_no h m
  unfold findT at h2 ⊢
  rw [List.find?_append, h2]
  rfl
theorem find_app0 {t : Txt} {L : List Th} (h : NoT t L) (R : List Th) : findT (L ++ R) t = findT R t := by
  have := find_app h R []
  simpa using this

/-! ### the stages of a save -/
/-- What a save wants. -/
structure Hy (d : Ds) (t b : Txt) (f : Fs3) : Prop where
  off : d.off = false
  two : Two2 t b
  no : NoT t d.things
  ats : ∀ x ∈ d.things, x.dir = false → x.at_ < d.files.length
section
variable {d : Ds} {t b m : Txt} {f : Fs3}
theorem Hy.find_t (h : Hy d t b f) {k : Nat} (hk : 1 ≤ k) : findT (d.things ++ (thT t d.files.length).take k) t = some ⟨t, true, 0⟩ := by
  rw [find_app0 h.no]
  obtain ⟨k, rfl⟩ : ∃ j, k = j + 1 := ⟨k - 1, by omega⟩
  simp [findT, thT]
theorem Hy.is_t (h : Hy d t b f) {k : Nat} (hk : 1 ≤ k) : isT (d.things ++ (thT t d.files.length).take k) t = 2 := by unfold isT; rw [h.find_t hk]; rfl
theorem Hy.parent (h : Hy d t b f) (hm : Rest m) {k : Nat} (hk : 1 ≤ k) : parentB (d.things ++ (thT t d.files.length).take k) (t ++ m) = true := by
  unfold parentB
  rw [hm.slash h.two.tn]
  simp only [List.take_left]
  rw [h.is_t hk]
  rfl
theorem Hy.used (h : Hy d t b f) (fs : List By) (L : List Th) (aw : Nat) (st : List St) : usedD { d with things := d.things ++ L, steps := st, files := d.files ++ fs, await := aw } = usedD d + usedL { d with files := d.files ++ fs } L := by
  have e0 : ∀ x : Ds, x.off = false → usedD x = usedL x x.things := fun x hx => by unfold usedD; rw [if_neg (by rw [hx]; simp)]
  rw [e0 { d with things := d.things ++ L, steps := st, files := d.files ++ fs, await := aw } h.off, e0 d h.off]
  have e : ∀ x ∈ d.things, (if x.dir then 0 else (nowAt { d with things := d.things ++ L, steps := st, files := d.files ++ fs, await := aw } x.at_).length) = (if x.dir then 0 else (nowAt d x.at_).length) := fun x hx => by
    cases hd : x.dir with
    | true => rfl
    | false =>
      simp only [Bool.false_eq_true, if_false]
      unfold nowAt
      simp only
      rw [List.getElem?_append_left (h.ats x hx hd)]
  unfold usedL
  rw [List.map_append, List.sum_append, List.map_congr_left e]
  rfl
end

section
variable {d : Ds} {t b : Txt} {f : Fs3}
end

section
variable {d : Ds} {t b : Txt} {f : Fs3}
end

section
variable {d : Ds} {t b : Txt} {f : Fs3}
end

section
variable {d : Ds} {t b : Txt} {f : Fs3}
end
end

section
section
variable {t b m : Txt} {L : List Th} {q k : Nat}
theorem Two2.swap (h : Two2 t b) : Two2 b t := ⟨h.bn, h.tn, h.ne.symm, h.len.symm⟩
theorem Two2.apart (h : Two2 t b) (m : Txt) : b.isPrefixOf (t ++ m) = false := by
  rw [Bool.eq_false_iff]
  intro hp
  have hp := List.isPrefixOf_iff_prefix.1 hp
  have h2 : b <+: t := List.prefix_of_prefix_length_le hp (List.prefix_append t m) (by rw [h.len]; exact Nat.le_refl _)
  exact h.ne (h2.eq_of_length h.len.symm).symm
theorem Two2.no (h : Two2 t b) (q : Nat) : NoT b (thT t q) := by
  intro x hx
  simp only [thT, List.mem_cons, List.not_mem_nil, or_false] at hx
  rcases hx with rfl | rfl | rfl | rfl
  · have := h.apart []
    simpa using this
  · exact h.apart _
  · exact h.apart _
  · exact h.apart _
end

/-! ### loads -/
section
variable {y : Ds} {t b : Txt} {f : Fs3} {q : Nat}
theorem all_some {i : Nat} (h : fileD y t = .ok i) : allD y t = ((fAt y i).now, 0) := by
  unfold allD
  rw [h]
end

/-! ### a save that nothing hinders -/
section
variable {d d0 : Ds} {t b : Txt} {f : Fs3}
end

/-! ### restarts -/
section
variable {t b : Txt} {f : Fs3}
end

/-! ### StoreFull -/
section
variable {t b : Txt} {f : Fs3}
end
end

section

/-! ### wakes -/
def t2 : Txt := [116, 48, 48, 48, 48, 48, 48, 48, 50]
def b2 : Txt := [98, 48, 48, 48, 48, 48, 48, 48, 50]
end

section
structure Trn where
  at_ : Int
  out : Int
  t : Txt
def Trn.len (l : List Trn) : Nat := (l.map (·.t.length)).sum
end
end Go.Proofs.YtfpgbhimgfdddaaGreatDoor

/- strings.Builder at this program: the library's contracts at the program's own numbers. -/
namespace Go.Proofs.YtfpgbhimgfdddaaGreatDoor
open Go.Shelf Go.RowKit
/-- A builder at block b, its bytes l, all of it from block B on. -/
def Bld (B b : Nat) (l : List UInt8) (w : World) : Prop := Lib.IsBuilderF 106 5 B b (Lib.byteCells l) w
/-- Every block but the builder's and rows of bytes stands as it stood. -/
def Others (b : Nat) (w w' : World) : Prop := Lib.OthersKept 5 (some b) w w'
theorem Others.blk {b g : Nat} {t : TypeId} {cs : Array Value} {w w' : World} (h : Others b w w') (hg : Blk w g t cs) (hne : g ≠ b) (ht : t ≠ 5) : Blk w' g t cs :=
  h g _ hg (fun e => hne (by injection e)) (fun c fz e => by injection e with _ e2 _; exact ht e2)
theorem Bld.new {B : Nat} (w : World) (hB : B ≤ w.heap.size) : Bld B w.heap.size [] (w.alloc (.cells #[.pointer none, .slice none 0 0] 106)) :=
  .inl ⟨hB, .slice none 0 0, heap_alloc_new w _, World.ownsRowF_nil _ _ _ _, by simp [Value.ownBlock]⟩
theorem Bld.lt {B b : Nat} {l : List UInt8} {w : World} (h : Bld B b l w) : b < w.heap.size := by
  rcases h with ⟨_, v, hb, _⟩ | ⟨_, v, hb, _⟩ <;> exact Blk.lt hb
theorem Bld.below {B b : Nat} {l : List UInt8} {w w' : World} (h : Bld B b l w) (hb : Below w.heap.size w w') : Bld B b l w' := by
  have key : ∀ p, Lib.BuilderAtF 106 5 B b p (Lib.byteCells l) w → Lib.BuilderAtF 106 5 B b p (Lib.byteCells l) w' := by
    rintro p ⟨h1, v, h2, h3, h4⟩
    refine ⟨h1, v, (hb.block b (Blk.lt h2)).trans h2, h3.kept (row := none) ⟨hb.os, hb.tape, hb.output, hb.size, fun k hk _ => hb.block k hk⟩ (by cases v.ownBlock <;> simp), h4⟩
  rcases h with h | h
  · exact .inl (key _ h)
  · exact .inr (key _ h)
end Go.Proofs.YtfpgbhimgfdddaaGreatDoor

/- The walks of layer 3 (disk), the document's: Append. -/
namespace Go.Proofs.YtfpgbhimgfdddaaGreatDoor
open Go.RowKit Go.Shelf Go.Maps Go.Sort
attribute [local go_sem ↓] Go.wp_at_zero Go.wp_at_succ
attribute [local go_sem] Later.cell Later.frozen

section
variable {B0 : Nat} {R : Nat → Nat} {A : RAdr} {d : Ds}
theorem flat_take {l : List Txt} {i : Nat} (hi : i < l.length) : (l.take (i + 1)).flatten = (l.take i).flatten ++ l[i]! := by
  rw [List.take_succ_eq_append_getElem hi, List.flatten_append, getElem!_pos l i hi]
  simp
end
end Go.Proofs.YtfpgbhimgfdddaaGreatDoor

/- The walks of layer 3 (disk), the document's: keep. -/
namespace Go.Proofs.YtfpgbhimgfdddaaGreatDoor
open Go.RowKit Go.Shelf Go.Maps Go.Sort
attribute [local go_sem ↓] Go.wp_at_zero Go.wp_at_succ
attribute [local go_sem] Later.cell Later.frozen

def RChs (w : World) (A : Option Addr) (n : Nat) (l : List Ch) : Prop := Elems w w.heap.size 3 encCh A n l
theorem RChs.at_ {w : World} {A : Option Addr} {n : Nat} {l : List Ch} (h : RChs w A n l) {i : Nat} (hi : i < n) : ∃ b off, A = some ⟨b, off, none⟩ ∧ b < w.heap.size ∧ w.cell? ⟨b, off + i * 3, none⟩ = some (txtV l[i]!.text) ∧ w.cell? ⟨b, off + i * 3 + 1, none⟩ = some (.bool l[i]!.cut) ∧ w.cell? ⟨b, off + i * 3 + 2, none⟩ = some (.int .i64 (l[i]!.size : Int)) := by
  obtain ⟨b, off, e, hb, hc⟩ := h.2 (by omega)
  have hl : i < l.length := by have : l.length = n := Elems.len h; omega
  have hx := hc i l[i]! (by rw [getElem!_pos l i hl, List.getElem?_eq_getElem hl])
  exact ⟨b, off, e, hb, by simpa using hx 0 _ rfl, by simpa using hx 1 _ rfl, by simpa using hx 2 _ rfl⟩
end Go.Proofs.YtfpgbhimgfdddaaGreatDoor

/- The walks of layer 3 (disk), the document's: Restart. -/
namespace Go.Proofs.YtfpgbhimgfdddaaGreatDoor
open Go.RowKit Go.Shelf Go.Maps Go.Sort
attribute [local go_sem ↓] Go.wp_at_zero Go.wp_at_succ
attribute [local go_sem] Later.cell Later.frozen

def Ints (w : World) (A : Option Addr) (n : Nat) (l : List Int) : Prop := Elems w w.heap.size 1 I1 A n l
theorem Ints.at_ {w : World} {A : Option Addr} {n : Nat} {l : List Int} (h : Ints w A n l) {i : Nat} (hi : i < n) : ∃ b off, A = some ⟨b, off, none⟩ ∧ b < w.heap.size ∧ w.cell? ⟨b, off + i, none⟩ = some (.int .i64 l[i]!) := by
  obtain ⟨b, off, e, hb, hc⟩ := h.2 (by omega)
  have hl : i < l.length := by have : l.length = n := Elems.len h; omega
  have hx := hc i l[i]! (by rw [getElem!_pos l i hl, List.getElem?_eq_getElem hl])
  exact ⟨b, off, e, hb, by simpa using hx 0 _ rfl⟩
section
variable {B0 M : Nat} {R : Nat → Nat} {A : RAdr} {d : Ds}
end
end Go.Proofs.YtfpgbhimgfdddaaGreatDoor

/- The walks of layer 3's law: code, twin. -/
namespace Go.Proofs.YtfpgbhimgfdddaaGreatDoor
open Go.RowKit Go.Shelf Go.Maps Go.Sort
attribute [local go_sem ↓] Go.wp_at_zero Go.wp_at_succ
attribute [local go_sem] Later.cell Later.frozen

/-- The failures lie apart. -/
def Apart (a : Nat → Addr) : Prop := ∀ i j, 1 ≤ i → i ≤ 7 → 1 ≤ j → j ≤ 7 → i ≠ j → a i ≠ a j
section
variable {B0 : Nat} {a : Nat → Addr}
/-- What the failures' variables point at. -/
def Sents (B0 : Nat) (a : Nat → Addr) (w : World) : Prop := ∀ k, 1 ≤ k → k ≤ 7 → (a k).block < B0 ∧ ∃ cs t, w.heap[(a k).block]? = some (.cells cs t (0, 0))
theorem Sents.below {w w' : World} (h : Sents B0 a w) (hb : Below B0 w w') : Sents B0 a w' := fun k h1 h2 => by
  obtain ⟨h3, cs, t, h4⟩ := h k h1 h2
  exact ⟨h3, cs, t, (hb.block _ h3).trans h4⟩
theorem info_ep : (Tryz.prog.info? 306).map (·.comparable) = some true := by kernel_rfl
theorem info_es : (Tryz.prog.info? 308).map (·.size) = some 1 := by kernel_rfl
theorem err_eq (i : Nat) (w : World) : (binOp .eql 32 (failV a i) (failV a i)).run Tryz.prog w = .ok (.bool true) w := by
  obtain ⟨i0, h1, h2⟩ := Option.map_eq_some_iff.1 info_ep
  obtain ⟨j0, h3, _⟩ := Option.map_eq_some_iff.1 info_es
  exact run_eql_iface_ptr_same w (a i) Tryz.underlying32 Tryz.underlying306 h1 h2 h3
theorem err_ne {i j : Nat} {w : World} (hs : Sents B0 a w) (ha : Apart a) (h1 : 1 ≤ i) (h2 : i ≤ 7) (h3 : 1 ≤ j) (h4 : j ≤ 7) (hne : i ≠ j) : (binOp .eql 32 (failV a i) (failV a j)).run Tryz.prog w = .ok (.bool false) w := by
  obtain ⟨i0, k1, k2⟩ := Option.map_eq_some_iff.1 info_ep
  obtain ⟨j0, k3, k4⟩ := Option.map_eq_some_iff.1 info_es
  obtain ⟨_, ci, ti, hi⟩ := hs i h1 h2
  obtain ⟨_, cj, tj, hj⟩ := hs j h3 h4
  exact run_eql_iface_ptr_other w Tryz.underlying32 Tryz.underlying306 k1 k2 k3 (by rw [k4]; decide) (ha i j h1 h2 h3 h4 hne) hi hj
end
end Go.Proofs.YtfpgbhimgfdddaaGreatDoor

/- The walks of layer 3's law: step, arm by arm (printed by gen_lawstep.py). -/
namespace Go.Proofs.YtfpgbhimgfdddaaGreatDoor
open Go.RowKit Go.Shelf Go.Maps Go.Sort
attribute [local go_sem ↓] Go.wp_at_zero Go.wp_at_succ
attribute [local go_sem] Later.cell Later.frozen

/-- One call of a script, in memory. -/
structure OpV where
  kind : Int
  a : ByteArray
  b : ByteArray
  n : Int
  m : Int
  pa : Option Addr
  pn : Nat
  pc : Nat
  da : Option Addr
  dn : Nat
  dc : Nat
  yes : Bool
def OpV.cells (o : OpV) : Array Value := #[.int .i64 o.kind, .string o.a, .string o.b, .int .i64 o.n, .int .i64 o.m, .slice o.pa o.pn o.pc, .slice o.da o.dn o.dc, .bool o.yes]
section
variable {M : Value → World → Prop} {N : World → Prop} {k : Nat}
end
end Go.Proofs.YtfpgbhimgfdddaaGreatDoor
