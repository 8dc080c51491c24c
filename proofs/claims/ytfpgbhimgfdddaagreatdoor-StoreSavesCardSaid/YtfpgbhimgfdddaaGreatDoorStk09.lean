/- Merged (what the claim wants of): DskWalksI, DskWalksJ. -/
import Derived.Test.YtfpgbhimgfdddaaGreatDoorStk08
set_option linter.unusedVariables false
set_option linter.unusedSimpArgs false
/- The walks of layer 3 (disk): names. -/
namespace Go.Proofs.YtfpgbhimgfdddaaGreatDoor
open Go.RowKit Go.Shelf Go.Maps Go.Sort
attribute [local go_sem ↓] Go.wp_at_zero Go.wp_at_succ
attribute [local go_sem] Later.cell Later.frozen

section
variable {B0 : Nat} {a : Nat → Addr} {R : Nat → Nat} {A : Adr} {d : Ds} {w w' : World}
/-- A step more. -/
theorem CD.step_more (h : CD B0 w R A d) {s : St} {f v' : Value} {fs : List Value} {w2 : World} (hs : StepM w R A.φ s f) (hfs : fs.length = d.steps.length) (hall : ∀ (i : Nat) s f, d.steps[i]? = some s → fs[i]? = some f → StepM w R A.φ s f)
    (hv : ∀ g, A.sv.ownBlock = some g → R g = 7) (hg : w.grownBy w2 A.sv.ownBlock) (hrow : w2.ownsRow 0 145 1 v' (d.steps.length + 1) (fs ++ [f])) (hat : v'.ownBlock = A.sv.ownBlock ∨ ∃ g, v'.ownBlock = some g ∧ w.heap.size ≤ g) :
    CD B0 (w2.setCell ⟨A.p, 4, none⟩ v') (rowR R v' 7) { A with sv := v' } { d with steps := d.steps ++ [s] } ∧ Own R (rowR R v' 7) w (w2.setCell ⟨A.p, 4, none⟩ v') := by
  have hold : ∀ k, k < w.heap.size → rowR R v' 7 k = R k := fun k hk => rowR_old hv hat hk
  have hpl := Blk.lt h.blk
  have key : ∀ k, R k ≠ 0 → R k ≠ 1 → R k ≠ 7 → (w2.setCell ⟨A.p, 4, none⟩ v').heap[k]? = w.heap[k]? ∧ rowR R v' 7 k = R k := by
    intro k hk h1 h7
    have hkl := h.inw k hk
    refine ⟨(Below.heap_setCell _ _ _ k (fun e => h1 (by rw [e]; exact h.rp))).trans (hg.block k hkl (fun e => h7 (hv k e.symm))), hold k hkl⟩
  have hpv : v'.ownBlock ≠ some A.p := by
    intro e
    rcases hat with h1 | ⟨g, h1, h2⟩
    · rw [h1] at e
      have := hv _ e
      have := h.rp
      omega
    · rw [h1] at e
      injection e with e
      omega
  have hpS : some A.p ≠ A.sv.ownBlock := by
    intro e
    have := hv _ e.symm
    have := h.rp
    omega
  have hblk2 : Blk w2 A.p _ _ := Blk.grown h.blk hg hpS
  have hsz2 : (w2.setCell ⟨A.p, 4, none⟩ v').heap.size = w2.heap.size := by simp [World.setCell]
  refine ⟨{
    blk := hblk2.set_ 4 v'
    rp := (hold _ hpl).trans h.rp
    dirs := h.dirs.same fun k hk => key k (by omega) (by omega) (by omega)
    files := h.files.same fun k hk => key k (by omega) (by omega) (by omega)
    sdirs := h.sdirs.same fun k hk => key k (by omega) (by omega) (by omega)
    sfiles := h.sfiles.same fun k hk => key k (by omega) (by omega) (by omega)
    steps := ?_
    bytes := h.bytes.same fun k hk => key k (by omega) (by omega) (by omega)
    inw := ?_
    low := ?_ }, ?_⟩
  · refine ⟨fs ++ [f], ⟨?_, fun g hg' => by simp [rowR, hg']⟩, by simp [hfs], fun i s' f' hs' hf' => ?_⟩
    · rw [List.length_append]
      exact ownsRow_setCell_other hrow (a := ⟨A.p, 4, none⟩) hpv _
    · have k5 : ∀ k, R k = 5 → (w2.setCell ⟨A.p, 4, none⟩ v').heap[k]? = w.heap[k]? ∧ rowR R v' 7 k = R k := fun k hk => key k (by omega) (by omega) (by omega)
      rw [List.getElem?_append] at hs' hf'
      rw [hfs] at hf'
      split at hs'
      · rename_i hi
        rw [if_pos hi] at hf'
        exact (hall i s' f' hs' hf').same k5
      · rename_i hi
        rw [if_neg hi] at hf'
        have hi0 : i - d.steps.length = 0 := by
          apply Classical.byContradiction
          intro hne
          rw [List.getElem?_eq_none (by simp; omega)] at hs'
          cases hs'
        rw [hi0] at hs' hf'
        simp at hs' hf'
        subst hs' hf'
        exact hs.same k5
  · intro k hk
    rw [hsz2]
    unfold rowR at hk
    split at hk
    · rename_i e
      exact (hrow.lt k e).2
    · exact Nat.lt_of_lt_of_le (h.inw k hk) hg.size
  · intro k hk
    unfold rowR
    split
    · rename_i e
      rcases hat with h1 | ⟨g, h1, h2⟩
      · rw [h1] at e
        have := hv k e
        have := h.low k hk
        omega
      · rw [h1] at e
        injection e with e
        have h3 : k < w.heap.size ∨ w.heap.size ≤ k := by omega
        have hB : B0 ≤ w.heap.size ∨ w.heap.size < B0 := by omega
        rcases hB with hB | hB
        · omega
        · have := h.low A.p (by omega)
          have := h.rp
          omega
    · exact h.low k hk
  · refine ⟨hg.os, hg.tape, hg.output, by rw [hsz2]; exact hg.size, fun k hk hr => ?_, hold⟩
    exact (Below.heap_setCell _ _ _ k (fun e => by have e' : k = A.p := e; have := h.rp; rw [e'] at hr; omega)).trans (hg.block k hk (fun e => by have := hv k e.symm; omega))

theorem step_enters {φ : List Nat} {st : St} {F : Nat} {C : Array Value} (h : StepM w R φ st (.func (.func F) #[] C)) : ∀ (args : Array Value) (w : World), (callFunc F args).run Tryz.prog w = .ok (.enter F args) w := by
  cases st with
  | mkdir x =>
    obtain ⟨b, e, _⟩ := h
    injection e with e1 _ _
    injection e1 with e1
    subst e1
    exact enters_of Tryz.func124 (by kernel_rfl) rfl
  | create x i =>
    obtain ⟨b, c, e, _⟩ := h
    injection e with e1 _ _
    injection e1 with e1
    subst e1
    exact enters_of Tryz.func66 (by kernel_rfl) rfl
  | rename x y =>
    obtain ⟨b, c, e, _⟩ := h
    injection e with e1 _ _
    injection e1 with e1
    subst e1
    exact enters_of Tryz.func113 (by kernel_rfl) rfl
  | remove x =>
    obtain ⟨b, e, _⟩ := h
    injection e with e1 _ _
    injection e1 with e1
    subst e1
    exact enters_of Tryz.func115 (by kernel_rfl) rfl
def NamesOut (B0 : Nat) (a : Nat → Addr) (R : Nat → Nat) (A : Adr) (r : Nat × Ds) (op s : ByteArray) (w : World) (e : Ending) (w' : World) : Prop :=
  ∃ v R' A', e = .returned v ∧ ErrV a w' op s r.1 v ∧ CD B0 w' R' A' r.2 ∧ Own R R' w w' ∧ A'.p = A.p ∧ A'.φ = A.φ
set_option maxRecDepth 100000 in
set_option maxHeartbeats 4000000 in
theorem names_calls (op s : ByteArray) (st : St) (F : Nat) (C : Array Value) (w : World) (h : CD B0 w R A d) (hv : StepM w R A.φ st (.func (.func F) #[] C)) (hw : TW d.files.length d.things) (hok : StOk d.files.length d.things st) (hl : d.things.length ≤ 1073741824) (hsl : d.steps.length ≤ 1073741824)
    (haw : d.await ≤ 9223372036854775807) (hB : B0 ≤ w.heap.size) (hF : Fails B0 a w) :
    Calls Tryz.prog 65 #[.pointer (some ⟨A.p, 0, none⟩), .string op, .string s, .func (.func F) #[] C] w (NamesOut B0 a R A (namesD d st) op s w) := by
  obtain ⟨i0, hi0, hz0, hz1, hz2⟩ := info_parts info_func
  have HST := Lib.hid (step_calls op s w h haw hB hF)
  have HN := Lib.hid (rfl : namesD d st = namesD d st)
  obtain ⟨p, hp⟩ : ∃ p, A.p = p := ⟨_, rfl⟩
  have HP := Lib.hid hp
  rw [hp] at HST ⊢
  have HV := Lib.hid hv
  have HW := Lib.hid hw
  have HOK := Lib.hid hok
  have hbase := Lib.hid h
  clear hp hv hw hok h haw hF
  go_enter Tryz.func65, Tryz.ntmps65
  go_wp2_with fail
  refine HST.out.mono ?_
  rintro _ w1 ⟨v, rfl, hv1, hcd, hO, hfar⟩
  obtain ⟨k, d1, hk⟩ : ∃ k d1, stepD d = (k, d1) := ⟨_, _, rfl⟩
  rw [hk] at hv1 hcd
  have HK := Lib.hid hk
  clear hk HST
  cases k with
  | succ k =>
    obtain ⟨q, rfl, hq⟩ := hv1
    have hfin : NamesOut B0 a R A (namesD d st) op s w (.returned (.iface 68 (.pointer (some ⟨q, 0, none⟩)))) w1 := by
      have e1 : namesD d st = (k + 1, d1) := by unfold namesD; rw [HK.out]; simp
      rw [e1]
      exact ⟨_, R, A, rfl, ⟨q, rfl, hq⟩, hcd, hO, rfl, rfl⟩
    have HFIN := Lib.hid hfin
    clear hfin hcd hO hq
    go_wp2_with fail
    go_ret
    exact HFIN.out
  | zero =>
    obtain rfl : v = .nilIface := hv1
    have hd1 : d1.things = d.things ∧ d1.steps = d.steps ∧ d1.files = d.files := by
      have := HK.out
      unfold stepD at this
      repeat' split at this
      all_goals (injection this with t1 t2; subst t2; exact ⟨rfl, rfl, rfl⟩)
    have e1 : namesD d st = (0, { d1 with things := applyS d.things st, steps := d.steps ++ [st] }) := by unfold namesD; rw [HK.out]; simp
    have HE1 := Lib.hid e1
    have HD1 := Lib.hid hd1
    clear e1 hd1
    have hpp := HP.out
    have c0 : w1.cell? ⟨p, 0, none⟩ = some (.map (some A.md)) := by rw [← hpp]; exact Blk.cell hcd.blk 0
    have c1 : w1.cell? ⟨p, 1, none⟩ = some (.map (some A.mf)) := by rw [← hpp]; exact Blk.cell hcd.blk 1
    have hvs : StepM w1 R A.φ st (.func (.func F) #[] C) := by
      refine StepM.same HV.out fun k hk => ?_
      exact ⟨hfar k (hbase.out.inw k (by omega)) (fun e => by have := hbase.out.rp; rw [← e] at this; omega), rfl⟩
    have hdo := do_calls (R := R) st F C HW.out HOK.out hl (by rw [← HD1.out.1]; exact hcd.dirs.1) (by rw [← HD1.out.1]; exact hcd.files.1) hcd.md_mf hvs
    have HDO := Lib.hid hdo
    have hcell4 : w1.cell? ⟨p, 4, none⟩ = some A.sv := by rw [← hpp]; exact Blk.cell hcd.blk 4
    have HVS := Lib.hid hvs
    clear hdo hvs hfar
    have heg := step_enters HVS.out
    go_wp2_with fail
    refine HDO.out.mono ?_
    rintro _ w2 ⟨rfl, hd2, hf2, hO2⟩
    clear heg
    have hcd2 := hcd.maps_only hO2 hd2 hf2
    have hO2R := Own.of_two hcd hO2
    have hvs2 : StepM w2 R A.φ st (.func (.func F) #[] C) := HVS.out.same fun k hk => ⟨hO2.block k (hcd.inw k (by omega)) (two_ne (fun e => by have := hcd.dirs.2; rw [← e] at this; omega) (fun e => by have := hcd.files.2; rw [← e] at this; omega)), rfl⟩
    obtain ⟨fs, hrow, hfs, hall⟩ := hcd2.steps
    have hst1 : ({ d1 with things := applyS d.things st } : Ds).steps = d.steps := HD1.out.2.1
    rw [hst1] at hrow hfs hall
    obtain ⟨m, hm⟩ : ∃ m, d.steps.length = m := ⟨_, rfl⟩
    rw [hm] at hrow hsl
    obtain ⟨X, c, hsv, _, _, hmc⟩ := Elems.of_own (enc := fun v : Value => [v]) (xs := fs) (fun _ _ => rfl) (by simp) hrow.1 (by rw [hfs, hm])
    have c4 : w2.cell? ⟨p, 4, none⟩ = some (.slice X m c) := by rw [← hsv, ← hpp]; exact Blk.cell hcd2.blk 4
    have hrow' := hrow.1
    rw [hsv] at hrow'
    have hlt2 := Blk.lt hcd2.blk
    rw [hpp] at hlt2
    have HALL := Lib.hid hall
    have HFS := Lib.hid hfs
    have HM := Lib.hid hm
    have HSV := Lib.hid hsv
    have HROW2 := Lib.hid hrow.2
    have HVS2 := Lib.hid hvs2
    have HST1 := Lib.hid hst1
    have HCD2 := Lib.hid hcd2
    have HO12 := Lib.hid (hO.trans hO2R)
    have hPblk := hcd2.blk
    unfold DBlk at hPblk
    rw [hpp] at hPblk
    have hpS : some p ≠ (Value.slice X m c).ownBlock := by
      rw [← hsv]
      intro e
      have h1 := hrow.2 _ e.symm
      have h2 := hcd2.rp
      rw [hpp] at h2
      omega
    clear hall hfs hm hsv hrow hvs2 hst1 hcd2 hO2R hO2 hd2 hf2 hO hcd HDO hcell4 c0 c1 HVS
    go_wp2_with (at_builtin; refine wpList_append_own_at _ rfl _ _ 123 rfl 0 145 i0 .nilFunc 1 8 Tryz.underlying123 hi0 hz0 hz1 hz2 rfl (by decide) _ _ _ rfl (hrow'.alloc _) ⟨w2.heap.size, 0, none⟩ 1 1 [.func (.func F) #[] C] rfl rfl ?p1 ?p2 ?p3 ?p4 ?p5 ?_)
    case p1 => exact news_of_blk (l := [.func (.func F) #[] C]) (Blk.new w2 _ _)
    case p2 => intro u hu; rw [List.mem_singleton.1 hu]; rfl
    case p3 => unfold maxLen; omega
    case p4 => omega
    case p5 => exact Nat.zero_le _
    intro v' w3 hown' hgrow _ hat
    have hall2 : w2.grownBy w3 (Value.slice X m c).ownBlock := (World.grownBy_alloc w2 _ _).trans hgrow
    have hP3 := hPblk.grown hall2 hpS
    obtain ⟨X3, c3, rfl, _, _, _⟩ := Elems.of_own (enc := fun v : Value => [v]) (xs := fs ++ [.func (.func F) #[] C]) (fun _ _ => rfl) (by simp) hown' (by rw [List.length_append, HFS.out, HM.out]; rfl)
    have hat' : (Value.slice X3 (m + 1) c3).ownBlock = (Value.slice X m c).ownBlock ∨ ∃ g, (Value.slice X3 (m + 1) c3).ownBlock = some g ∧ w2.heap.size ≤ g := by
      rcases hat with h1 | h1
      · exact .inl h1
      · exact .inr ⟨_, h1, by simp⟩
    have hmore := CD.step_more HCD2.out (s := st) (f := .func (.func F) #[] C) (v' := .slice X3 (m + 1) c3) (fs := fs) (w2 := w3) HVS2.out (by rw [HST1.out]; exact HFS.out) (by rw [HST1.out]; exact HALL.out) HROW2.out (by rw [HSV.out]; exact hall2) (by rw [HST1.out, HM.out]; exact hown') (by rw [HSV.out]; exact hat')
    rw [hpp, HST1.out] at hmore
    obtain ⟨hc4, ho4⟩ := hmore
    have k4 : w3.cell? ⟨p, 4, none⟩ = some (Value.slice X m c) := by
      have := hP3.cell 4
      rw [HSV.out] at this
      exact this
    have g4 := hP3.frozen 4
    have HC4 := Lib.hid hc4
    have HO4 := Lib.hid (HO12.out.trans ho4)
    clear hc4 ho4 hown' hgrow hat hat' hall2 hP3 hPblk hrow' hpS
    go_wp2_with fail
    go_ret
    exact ⟨_, _, ⟨p, A.md, A.mf, A.sd, A.sf, .slice X3 (m + 1) c3, A.φ⟩, rfl, by rw [HE1.out]; rfl, by rw [HE1.out]; exact HC4.out, HO4.out, HP.out.symm, rfl⟩
end
end Go.Proofs.YtfpgbhimgfdddaaGreatDoor

/- The walks of layer 3 (disk): Mkdir, Remove. -/
namespace Go.Proofs.YtfpgbhimgfdddaaGreatDoor
open Go.RowKit Go.Shelf Go.Maps Go.Sort
attribute [local go_sem ↓] Go.wp_at_zero Go.wp_at_succ
attribute [local go_sem] Later.cell Later.frozen

section
variable {B0 : Nat} {a : Nat → Addr} {R : Nat → Nat} {A : Adr} {d : Ds} {w w' : World}
/-- A block that is nobody's gets a role. -/
theorem CD.grant (h : CD B0 w R A d) {b : Nat} (hb : b < w.heap.size) (hR : R b = 0) (hB : B0 ≤ b) (r : Nat) : CD B0 w (giv R b r) A d :=
  h.same (fun k hk => ⟨rfl, giv_ne (by rintro rfl; exact hk hR)⟩) (h.inw.give (Nat.le_refl _) hb) (fun k hk => by rw [giv_ne (by omega)]; exact h.low k hk)
/-- What the call may rely on: sizes, and that all is as it should be. -/
structure Fit (d : Ds) : Prop where
  tw : TW d.files.length d.things
  tl : d.things.length ≤ 536870912
  sl : d.steps.length ≤ 536870912
  fl : d.files.length ≤ 536870912
  aw : d.await ≤ 9223372036854775807

theorem look_dir (h : CD B0 w R A d) (hf : Fit d) (S : ByteArray) (hS : S.size ≤ 1073741824) (r : Int) (hr : (if isT d.things S.data.toList = 2 then 1 else 0) = r) (x : Later w) : (Instr.lookup 119 (.map (some A.md)) (.string S) false).run Tryz.prog x.w = .ok (.int .i64 r) x.w := by
  have h1 := h.dirs.1.below x.h h.dirs.1.lt
  have := h1.look Tryz.underlying9 Tryz.underlying119 (zeroI x.w) (s := S) (by unfold maxLen; omega)
  have key : (dirF d.things S.data.toList).getD (.int .i64 0) = .int .i64 r := by
    rw [← hr]
    split
    · rename_i e
      obtain ⟨v, hv⟩ := Option.isSome_iff_exists.1 ((dirF_two hf.tw).2 e)
      rw [hv, dirF_val hv]
      rfl
    · rename_i e
      cases hv : dirF d.things S.data.toList with
      | none => rfl
      | some v => exact absurd ((dirF_two hf.tw).1 (by rw [hv]; rfl)) e
  rw [this, key]
theorem look_fil (h : CD B0 w R A d) (hf : Fit d) (S : ByteArray) (hS : S.size ≤ 1073741824) : ∃ P : Option Addr, (P = none ↔ isT d.things S.data.toList ≠ 1) ∧ ∀ x : Later w, (Instr.lookup 120 (.map (some A.mf)) (.string S) false).run Tryz.prog x.w = .ok (.pointer P) x.w := by
  cases hv : filF A.φ d.things S.data.toList with
  | none =>
    refine ⟨none, ⟨fun _ e => ?_, fun _ => rfl⟩, fun x => ?_⟩
    · have := (filF_one (φ := A.φ) hf.tw).2 e
      rw [hv] at this
      cases this
    · have h1 := h.files.1.below x.h h.files.1.lt
      have := h1.look Tryz.underlying9 Tryz.underlying120 (zeroFl x.w) (s := S) (by unfold maxLen; omega)
      rw [this, hv]
      rfl
  | some v =>
    obtain ⟨y, hy, _, _, rfl⟩ := (filF_iff hf.tw.nodup).1 hv
    refine ⟨some ⟨A.φ[y.at_]?.getD 0, 0, none⟩, ⟨(fun e => by cases e), fun e => ?_⟩, fun x => ?_⟩
    · exact absurd ((filF_one (φ := A.φ) hf.tw).1 (by rw [hv]; rfl)) e
    · have h1 := h.files.1.below x.h h.files.1.lt
      have := h1.look Tryz.underlying9 Tryz.underlying120 (zeroFl x.w) (s := S) (by unfold maxLen; omega)
      rw [this, hv]
      rfl
theorem NamesOut.bad {k : Nat} {op s : ByteArray} {w0 : World} {v : Value} (h : CD B0 w0 R A d) (hb : Below w0.heap.size w0 w) (hv : ErrV a w op s k v) : NamesOut B0 a R A (k, d) op s w0 (.returned v) w :=
  ⟨v, R, A, rfl, hv, h.below hb, Own.of_below hb, rfl, rfl⟩

set_option maxRecDepth 100000 in
set_option maxHeartbeats 4000000 in
theorem mkdir_calls (S : ByteArray) (w : World) (h : CD B0 w R A d) (hf : Fit d) (hS : S.size ≤ 1073741824) (hB : B0 ≤ w.heap.size) (hF : Fails B0 a w) :
    Calls Tryz.prog 86 #[.pointer (some ⟨A.p, 0, none⟩), .string S] w (NamesOut B0 a R A (mkdirD d S.data.toList) ⟨#[109, 107, 100, 105, 114]⟩ S w) := by
  obtain ⟨rn, hrn⟩ : ∃ r, nameB S.data.toList = r := ⟨_, rfl⟩
  have HNM := Lib.hid (fun w => name_calls S rn hrn hS w)
  have HRN := Lib.hid hrn
  obtain ⟨p, hp⟩ : ∃ p, A.p = p := ⟨_, rfl⟩
  have HP := Lib.hid hp
  rw [hp]
  have H0 := Lib.hid h
  clear hrn hp
  go_enter Tryz.func86, Tryz.ntmps86
  go_upto_region 1 with fail
  obtain ⟨w1, hw1⟩ : ∃ x, w.alloc (.cells #[.string S] 9) = x := ⟨_, rfl⟩
  have hb1 : Below w.heap.size w w1 := by rw [← hw1]; exact (Below.refl _ _).alloc (Nat.le_refl _) _
  have hq : Blk w1 w.heap.size 9 #[.string S] := by rw [← hw1]; exact Blk.new _ _ _
  rw [hw1]
  obtain ⟨q, hqq⟩ : ∃ q, w.heap.size = q := ⟨_, rfl⟩
  have hR0 : R q = 0 := h.inw.new (by omega)
  rw [hqq] at hq hB ⊢
  have HQ := Lib.hid hqq
  have q0 : _ = some (Value.string S) := hq.cell 0
  have hql := hq.lt
  clear hw1 hqq
  refine wp_region_later_tail 4 (by kernel_rfl) (by kernel_rfl) ?_
  simp only [List.take_succ_cons, List.take_zero, List.drop_succ_cons, List.drop_zero]
  repeat (go_big_quiet_step ((go_at_call 80; exact quiet_same _ (HNM.out _))))
  refine wpQuiet_nil ?_
  rintro w2 ⟨⟨_, hb2⟩, rfl⟩
  have hB2 := then_ hb1 hb2
  have hcd2 := h.below hB2
  have hF2 : Fails B0 a w2 := hF.below (hB2.mono (by have := HQ.out; omega))
  have hoff : w2.cell? ⟨p, 6, none⟩ = some (.bool d.off) := by rw [← HP.out]; exact Blk.cell hcd2.blk 6
  obtain ⟨k, hk⟩ : ∃ k, readyR d.off rn = k := ⟨_, rfl⟩
  have HK := Lib.hid hk
  have hq2 := hq.below hb2 hq.lt
  have hready := ready_calls (B0 := B0) (a := a) p d.off rn ⟨#[109, 107, 100, 105, 114]⟩ S k hk w2 hoff hF2
  have HRD := Lib.hid hready
  clear hk hready hq q0 hql hb1 hb2
  go_wp2_with fail
  refine HRD.out.mono ?_
  rintro _ w3 ⟨v, rfl, hv3, hb3⟩
  have hB3 := then_ hB2 hb3
  have hcd3 := h.below hB3
  have hF3 := hF2.below (hb3.mono (by have := hB2.size; have := HQ.out; omega))
  have hq3 := hq2.below hb3 hq2.lt
  clear hcd2 hF2 hoff hq2 hb3 HRD hB2
  cases k with
  | succ k =>
    have hfin : NamesOut B0 a R A (mkdirD d S.data.toList) ⟨#[109, 107, 100, 105, 114]⟩ S w (.returned v) w3 := by
      have e1 : mkdirD d S.data.toList = (k + 1, d) := by
        have hk := HK.out
        unfold readyR at hk
        unfold mkdirD
        rw [← hk, HRN.out]
        cases ho : d.off with
        | true => simp
        | false =>
          rw [ho] at hk
          cases rn with
          | true => simp at hk
          | false => simp
      rw [e1]
      exact NamesOut.bad h hB3 hv3
    obtain ⟨q4, rfl, _⟩ := hv3
    have HFIN := Lib.hid hfin
    clear hfin hcd3 hF3 hq3 hB3
    go_wp2_with fail
    go_ret
    exact HFIN.out
  | zero =>
    obtain rfl : v = .nilIface := hv3
    obtain ⟨ho, hn⟩ : d.off = false ∧ rn = true := by
      have hk := HK.out
      unfold readyR at hk
      cases ho : d.off with
      | true => rw [ho] at hk; simp at hk
      | false =>
        rw [ho] at hk
        cases rn with
        | true => exact ⟨rfl, rfl⟩
        | false => simp at hk
    have e1 : mkdirD d S.data.toList = if isT d.things S.data.toList ≠ 0 then (5, d) else namesD d (.mkdir S.data.toList) := by
      unfold mkdirD
      rw [ho, HRN.out, hn]
      simp
    have HE1 := Lib.hid e1
    obtain ⟨P, hP, hlf⟩ := look_fil hcd3 hf S hS
    have c0 : w3.cell? ⟨p, 0, none⟩ = some (.map (some A.md)) := by rw [← HP.out]; exact Blk.cell hcd3.blk 0
    have c1 : w3.cell? ⟨p, 1, none⟩ = some (.map (some A.mf)) := by rw [← HP.out]; exact Blk.cell hcd3.blk 1
    have q0 : _ = some (Value.string S) := hq3.cell 0
    have hql := hq3.lt
    have hpl : p < w3.heap.size := lt_of_cell c0
    have HPP := Lib.hid hP
    have HNB := Lib.hid (HRN.out.trans hn)
    clear ho hn e1 hP HK
    go_upto_region 4 with fail
    rcases isT_range d.things S.data.toList with h0 | h0 | h0
    · obtain rfl : P = none := HPP.out.2 (by rw [h0]; omega)
      have hlk := look_dir hcd3 hf S hS 0 (by rw [h0]; rfl)
      refine wp_region_later (by kernel_rfl) (by kernel_rfl) ?_
      repeat (go_big_quiet_step (fail))
      refine wpQuiet_nil ?_
      rintro w4 ⟨⟨_, hb4⟩, rfl⟩
      have hB4 := then_ hB3 hb4
      have hcd4 := h.below hB4
      have hq4 := hq3.below hb4 hq3.lt
      have hcd5 : CD B0 w4 (giv R q 5) A d := hcd4.grant hq4.lt hR0 hB 5
      have hST : StepM w4 (giv R q 5) A.φ (.mkdir S.data.toList) (.func (.func 124) #[] #[.pointer (some ⟨q, 0, none⟩)]) := ⟨q, rfl, by
        have e : txtV S.data.toList = .string S := by unfold txtV; rw [← bytes_of rfl]
        rw [Box, e]
        exact ⟨hq4, giv_self R q 5⟩⟩
      have hF4 := hF3.below (hb4.mono (by have := hB3.size; have := HQ.out; omega))
      have hnm := names_calls (a := a) ⟨#[109, 107, 100, 105, 114]⟩ S (.mkdir S.data.toList) _ _ w4 hcd5 hST hf.tw ⟨HNB.out, h0⟩ (by have := hf.tl; omega) (by have := hf.sl; omega) hf.aw (by have := hB4.size; have := HQ.out; omega) hF4
      rw [HP.out] at hnm
      have e2 : mkdirD d S.data.toList = namesD d (.mkdir S.data.toList) := by rw [HE1.out, if_neg (by rw [h0]; simp)]
      have HE2 := Lib.hid e2
      have hO : Own R (giv R q 5) w w4 := (Own.of_below hB4).give (by have := HQ.out; omega)
      have HO := Lib.hid hO
      have HNM2 := Lib.hid hnm
      have q0' : _ = some (Value.string S) := hq4.cell 0
      clear hnm hST hcd4 hcd5 hF4 e2 hO hlk hlf q0 c0 c1 h0
      go_wp2_with fail
      refine HNM2.out.mono ?_
      rintro e w5 hN
      obtain ⟨v, R', A', rfl, k2, k3, k4, k5⟩ := hN
      have hfin : NamesOut B0 a R A (mkdirD d S.data.toList) ⟨#[109, 107, 100, 105, 114]⟩ S w (.returned v) w5 := by
        rw [HE2.out]
        exact ⟨v, R', A', rfl, k2, k3, HO.out.trans k4, k5⟩
      have HFIN := Lib.hid hfin
      clear hfin k2 k3 k4 k5
      go_wp2_with fail
      go_ret
      exact HFIN.out
    · have hlk := look_dir hcd3 hf S hS 0 (by rw [h0]; rfl)
      obtain ⟨P', rfl⟩ : ∃ P', P = some P' := by
        cases P with
        | none => exact absurd h0 (HPP.out.1 rfl)
        | some P' => exact ⟨P', rfl⟩
      refine wp_region_later (by kernel_rfl) (by kernel_rfl) ?_
      repeat (go_big_quiet_step (fail))
      refine wpQuiet_nil ?_
      rintro w4 ⟨⟨_, hb4⟩, rfl⟩
      have hB4 := then_ hB3 hb4
      have hq4 := hq3.below hb4 hq3.lt
      have hF4 := hF3.below (hb4.mono (by have := hB3.size; have := HQ.out; omega))
      have f5 : _ = some (failV a 5) := (hF4 5 (by decide)).2
      have hfl := fail_calls (a := a) ⟨#[109, 107, 100, 105, 114]⟩ S 4 w4
      unfold failV at f5 hfl
      simp only [failG] at f5
      have HFL := Lib.hid hfl
      have e2 : mkdirD d S.data.toList = (5, d) := by rw [HE1.out, if_pos (by rw [h0]; simp)]
      have HE2 := Lib.hid e2
      have q0' : _ = some (Value.string S) := hq4.cell 0
      clear hfl hF4 e2 hlk hlf q0 c0 c1 h0
      go_wp2_with fail
      refine HFL.out.mono ?_
      rintro e w5 ⟨v, rfl, hv5, hb5⟩
      have hfin : NamesOut B0 a R A (mkdirD d S.data.toList) ⟨#[109, 107, 100, 105, 114]⟩ S w (.returned v) w5 := by
        rw [HE2.out]
        exact NamesOut.bad h (then_ hB4 hb5) hv5
      have HFIN := Lib.hid hfin
      clear hfin hv5
      go_wp2_with fail
      go_ret
      exact HFIN.out
    · have hlk := look_dir hcd3 hf S hS 1 (by rw [h0]; rfl)
      refine wp_region_later (by kernel_rfl) (by kernel_rfl) ?_
      repeat (go_big_quiet_step (fail))
      refine wpQuiet_nil ?_
      rintro w4 ⟨⟨_, hb4⟩, rfl⟩
      have hB4 := then_ hB3 hb4
      have hq4 := hq3.below hb4 hq3.lt
      have hF4 := hF3.below (hb4.mono (by have := hB3.size; have := HQ.out; omega))
      have f5 : _ = some (failV a 5) := (hF4 5 (by decide)).2
      have hfl := fail_calls (a := a) ⟨#[109, 107, 100, 105, 114]⟩ S 4 w4
      unfold failV at f5 hfl
      simp only [failG] at f5
      have HFL := Lib.hid hfl
      have e2 : mkdirD d S.data.toList = (5, d) := by rw [HE1.out, if_pos (by rw [h0]; simp)]
      have HE2 := Lib.hid e2
      have q0' : _ = some (Value.string S) := hq4.cell 0
      clear hfl hF4 e2 hlk hlf q0 c0 c1 h0
      go_wp2_with fail
      refine HFL.out.mono ?_
      rintro e w5 ⟨v, rfl, hv5, hb5⟩
      have hfin : NamesOut B0 a R A (mkdirD d S.data.toList) ⟨#[109, 107, 100, 105, 114]⟩ S w (.returned v) w5 := by
        rw [HE2.out]
        exact NamesOut.bad h (then_ hB4 hb5) hv5
      have HFIN := Lib.hid hfin
      clear hfin hv5
      go_wp2_with fail
      go_ret
      exact HFIN.out
end
end Go.Proofs.YtfpgbhimgfdddaaGreatDoor
