/- Merged (what the claim wants of): BlkPlain, BlkMem, ChkWalksD, ChkWalksE, ChkRdA, RegTake, BlkTake, CrcPlain. -/
import Derived.Test.YtdoiekknhnbepaaGreatDoorBka03
import Derived.Test.YtdoiekknhnbepaaGreatDoorBka01
import Derived.Test.YtdoiekknhnbepaaGreatDoorBka02
import Derived.Laws.BytesArg
import Derived.OrdersHeld
set_option linter.unusedVariables false
set_option linter.unusedSimpArgs false
namespace Go.Proofs.YtdoiekknhnbepaaGreatDoor
structure Ser where
 labels : List Lb
 samples : List Smp
 windows : List Wnd
structure Cont where
 res : Int
 frm : Int
 to_ : Int
 series : List Ser
def riseI : List Int → Bool
 | [] => true
 | [_] => true
 | a :: b :: l => decide (a < b) && riseI (b :: l)
def Kcl (f t : Int) (l : List Int) : Bool := decide (l ≠ []) && l.all (fun x => decide (f ≤ x) && decide (x < t)) && riseI l
def Kdd (c : Cont) (s : Ser) : Bool :=
 if c.res = 0 then decide (s.windows.length = 0) && Kcl c.frm c.to_ (s.samples.map Smp.t)
 else Kbx wnd0 true s.windows && decide (s.samples.length = 0) && Kcl c.frm c.to_ (s.windows.map Wnd.start)
def Kxt (c : Cont) (s : Ser) : Bool :=
 Kbx wnd0 true s.windows && !((decide (c.res = 0) && decide (0 < s.windows.length)) || (decide (0 < c.res) && decide (0 < s.samples.length))) && Kcl c.frm c.to_ (s.samples.map Smp.t ++ s.windows.map Wnd.start)
theorem Qbc {c : Cont} (h : 0 ≤ c.res) (s : Ser) : Kdd c s = Kxt c s := by
 unfold Kdd Kxt
 by_cases h0 : c.res = 0
 ·rw [if_pos h0]; have h1 : ¬ 0 < c.res := by omega
  cases hw : s.windows with
  | nil => simp [h0, Kbx]
  | cons w l => simp [h0]
 ·rw [if_neg h0]; have h1 : 0 < c.res := by omega
  cases hs : s.samples with
  | nil => simp [h0, h1]
  | cons x l => simp [h0, h1]
end Go.Proofs.YtdoiekknhnbepaaGreatDoor
namespace Go.Proofs.YtdoiekknhnbepaaGreatDoor
open Go.RowKit
def Kbf (x : Smp) : List Value := [.int .i64 x.t, .int .u64 (x.v : Int)]
def Kat (x : Wnd) : List Value := [.int .i64 x.start, .int .i64 x.count, .int .u64 (x.sum : Int), .int .u64 (x.min : Int), .int .u64 (x.max : Int), .int .u64 (x.last : Int)]
instance smpIn : Inhabited Smp := ⟨⟨0, 0⟩⟩
instance wndIn : Inhabited Wnd := ⟨wnd0⟩
instance serIn : Inhabited Ser := ⟨⟨[], [], []⟩⟩
structure Hd3 where
 l : Hd
 s : Hd
 w : Hd
instance hd3In : Inhabited Hd3 := ⟨⟨default, default, default⟩⟩
def encH3 (h : Hd3) : List Value := [.slice h.l.A h.l.n h.l.c, .slice h.s.A h.s.n h.s.c, .slice h.w.A h.w.n h.w.c]
structure SerAt (w : World) (h : Hd3) (x : Ser) : Prop where
 l : Elems w w.heap.size 2 encLb h.l.A h.l.n x.labels
 lc : h.l.n ≤ h.l.c
 s : Elems w w.heap.size 2 Kbf h.s.A h.s.n x.samples
 sc : h.s.n ≤ h.s.c
 w : Elems w w.heap.size 6 Kat h.w.A h.w.n x.windows
 wc : h.w.n ≤ h.w.c
theorem SerAt.below {w w' : World} {h : Hd3} {x : Ser} (hs : SerAt w h x) (hb : Below w.heap.size w w') : SerAt w' h x :=
 ⟨(hs.l.below hb).more hb.size, hs.lc, (hs.s.below hb).more hb.size, hs.sc, (hs.w.below hb).more hb.size, hs.wc⟩
def Sers (w : World) (A : Option Addr) (n : Nat) (L : List Ser) : Prop :=
 ∃ hs : List Hd3, Elems w w.heap.size 3 encH3 A n hs ∧ L.length = n ∧ ∀ (i : Nat) (h : Hd3), hs[i]? = some h → SerAt w h L[i]!
section
variable {w w' : World} {A : Option Addr} {n : Nat} {L : List Ser}
theorem Sers.below (h : Sers w A n L) (hb : Below w.heap.size w w') : Sers w' A n L := by
 obtain ⟨hs, h1, h2, h3⟩ := h; exact ⟨hs, (h1.below hb).more hb.size, h2, fun i x hx => (h3 i x hx).below hb⟩
theorem Sers.len (h : Sers w A n L) : L.length = n := by obtain ⟨_, _, h2, _⟩ := h; exact h2
theorem Sers.at_ (h : Sers w A n L) {i : Nat} (hi : i < n) : ∃ b off x, A = some ⟨b, off, none⟩ ∧ b < w.heap.size ∧
  w.cell? ⟨b, off + i * 3, none⟩ = some (.slice x.l.A x.l.n x.l.c) ∧ w.cell? ⟨b, off + i * 3 + 1, none⟩ = some (.slice x.s.A x.s.n x.s.c) ∧ w.cell? ⟨b, off + i * 3 + 2, none⟩ = some (.slice x.w.A x.w.n x.w.c) ∧ SerAt w x L[i]! := by
 obtain ⟨hs, h1, h2, h3⟩ := h; obtain ⟨b, off, e, hb, hc⟩ := h1.2 (by omega); have hl : i < hs.length := by have := h1.len; omega
 have a1 := h3 i hs[i] (List.getElem?_eq_getElem hl); have c0 := hc i hs[i] (List.getElem?_eq_getElem hl) 0 _ rfl; have c1 := hc i hs[i] (List.getElem?_eq_getElem hl) 1 _ rfl; have c2 := hc i hs[i] (List.getElem?_eq_getElem hl) 2 _ rfl; exact ⟨b, off, hs[i], e, hb, by simpa using c0, c1, c2, a1⟩
end
end Go.Proofs.YtdoiekknhnbepaaGreatDoor
namespace Go.Proofs.YtdoiekknhnbepaaGreatDoor
open Go.RowKit
attribute [local go_sem ↓] Go.wp_at_zero Go.wp_at_succ
attribute [local go_sem] Later.cell
theorem Qfx {w : World} {B n : Nat} {v : Value} {s : List UInt8} (h : w.ownsRow B 5 1 v n (Lib.byteCells s)) (hn : s.length = n) : (convert 76 9 v).run Tryz.prog w = .ok (.string ⟨s.toArray⟩) w := by
 subst hn
 by_cases h0 : s = []
 ·subst h0; rcases h.2 with ⟨rfl, _⟩ | ⟨g', cap, cur, rfl, _⟩
  ·kernel_rfl
  ·kernel_rfl
 ·obtain ⟨a, cap, rfl, hc⟩ := Kcf.text (l := s) h h0; exact hc
theorem Kuo (B b : Nat) (T : TypeId) (rest : List Value) (l : List Bool) (w : World) (h : WrAt B b T rest l w) :
  Calls Tryz.prog 202 #[.pointer (some ⟨b, 0, none⟩)] w fun e w' => e = .returned (.string ⟨(packB l).toArray⟩) ∧ w = w' := by
 obtain ⟨h0, v, h1, h2, h3⟩ := h; have hc := Qfx h2 (Kew l).len; have c0 : w.cell? ⟨b, 0, none⟩ = some v := h1.cell 0; obtain ⟨S, hS⟩ : ∃ S : ByteArray, (⟨(packB l).toArray⟩ : ByteArray) = S := ⟨_, rfl⟩; rw [hS] at hc ⊢; clear h1 h2 h3 hS; go_enter Tryz.func202, Tryz.ntmps202
 go_wp2_with fail
 go_ret
 exact ⟨rfl, rfl⟩
set_option maxRecDepth 100000 in
set_option maxHeartbeats 1000000 in
theorem Kwu (B b : Nat) (c : Cst) (l : List Bool) (w : World) (h : ChAt B b c l w) (hn : c.n ≤ 120) (hlen : l.length ≤ 2000000) (hB : B ≤ w.heap.size) :
  Calls Tryz.prog 172 #[.pointer (some ⟨b, 0, none⟩)] w fun e w' => e = .returned (.string ⟨(uintT c.n ++ packB l).toArray⟩) ∧ Below w.heap.size w w' := by
 have c2 := h.cells.1; have hbl := h.lt; have H := Lib.hid h; obtain ⟨n, hn2⟩ : ∃ n, c.n = n := ⟨_, rfl⟩; rw [hn2] at c2 hn ⊢; clear h hn2; have hu := fun w => Kax n (by omega) w
 obtain ⟨U, hU⟩ : ∃ U : ByteArray, (⟨(uintT n).toArray⟩ : ByteArray) = U := ⟨_, rfl⟩; obtain ⟨V, hV⟩ : ∃ V : ByteArray, (⟨(packB l).toArray⟩ : ByteArray) = V := ⟨_, rfl⟩; have hUz : U.size ≤ 11 := by rw [← hU]; simp only [ByteArray.size, List.size_toArray]; exact (Kab n).2
 have hVz : V.size ≤ 2000000 := by rw [← hV]; simp only [ByteArray.size, List.size_toArray]; rw [(Kew l).len]; omega
 have hUV : U ++ V = (⟨(uintT n ++ packB l).toArray⟩ : ByteArray) := by rw [← hU, ← hV]; apply ByteArray.ext; simp [ByteArray.data_append]
 have HW := Lib.hid (fun (w' : World) (hb : Below w.heap.size w w') => Kuo B b _ _ l w' (H.out.far hb)); simp only [hU] at hu; rw [hV] at HW; have HU := Lib.hid hu; have HUV := Lib.hid hUV; clear hu hU hV hUV; go_enter Tryz.func172, Tryz.ntmps172
 go_upto_region 3 with fail
 refine Kad (by kernel_rfl) (by kernel_rfl) ?_
 repeat (go_big_quiet_step ((first | (go_at_call 42; exact Kal _ (HU.out _)) | (go_at_call 202; exact Knz _ (HW.out _ (Later.h _))))))
 refine wpQuiet_nil ?_; rintro w2 ⟨⟨_, hb2⟩, rfl⟩; go_wp2_with fail
 go_ret
 rw [HUV.out]; exact ⟨rfl, hb2⟩
end Go.Proofs.YtdoiekknhnbepaaGreatDoor
namespace Go.Proofs.YtdoiekknhnbepaaGreatDoor
open Go.RowKit
open Lib renaming hid → Jh
attribute [local go_sem ↓] Go.wp_at_zero Go.wp_at_succ
attribute [local go_sem] Later.cell
def stW : Cst → List Smp → Cst
 | c, [] => c
 | c, s :: l => stW (Kbh c s).2 l
def encE : Cst → List Smp → Nat
 | _, [] => 0
 | c, s :: l => if stepE c s ≠ 0 then stepE c s else encE (Kbh c s).2 l
theorem Kis : ∀ (l : List Smp) (c : Cst) (s : Smp), stW c (l ++ [s]) = (Kbh (stW c l) s).2
 | [], _, _ => rfl
 | x :: l, c, s => Kis l (Kbh c x).2 s
theorem Kgi : ∀ (l : List Smp) (c : Cst) (s : Smp), Kbl c (l ++ [s]) = Kbl c l ++ (Kbh (stW c l) s).1
 | [], c, s => by simp [Kbl, stW]
 | x :: l, c, s => by rw [List.cons_append, Kbl, Kbl, Kgi l, stW, List.append_assoc]
theorem stW_n : ∀ (l : List Smp) (c : Cst), (stW c l).n = c.n + l.length
 | [], c => rfl
 | x :: l, c => by rw [stW, stW_n l, (Kgd c x).1, List.length_cons]; omega
theorem Kzc (c : Cst) (h : c.Ok) (x : Nat) : (Kbi c x).1.length ≤ 80 := by
 have := h.2; unfold Kbi
 repeat' split
 all_goals simp [Kar]
 all_goals omega
theorem Kza (c : Cst) (h : c.Ok) (s : Smp) : (Kbh c s).1.length ≤ 150 := by
 unfold Kbh
 split
 ·simp [Kar]
 ·have h1 := Koh (s.t - c.last.t - c.step); have h2 := Kzc { c with step := s.t - c.last.t } h (s.v ^^^ c.last.v); simp only [List.length_append]; omega
theorem Ktn {c : Cst} {s : Smp} (h : stepE c s = 0) : 0 ≤ s.t ∧ s.t ≤ 1125899906842624 ∧ (c.n = 0 ∨ c.last.t < s.t) ∧ c.n ≠ 120 := by
 unfold stepE at h
 split at h
 ·omega
 ·split at h
  ·omega
  ·split at h
   ·omega
   ·exact ⟨by omega, by omega, by omega, by omega⟩
def prevB (prev : Option Smp) (x : Smp) : Bool := match prev with | none => true | some y => decide (y.t < x.t)
theorem Kqd (prev : Option Smp) (n : Nat) (x : Smp) (l : List Smp) : fitC prev n (x :: l) = (decide (0 ≤ x.t) && decide (x.t ≤ 1125899906842624) && prevB prev x && decide (n < 120) && fitC (some x) (n + 1) l) := by cases prev <;> rfl
theorem Kux : ∀ (l : List Smp) (c : Cst) (prev : Option Smp), c.n ≤ 120 → (∀ p, prev = some p → c.n ≠ 0 ∧ c.last = p) → (prev = none → c.n = 0) → (encE c l = 0 ↔ fitC prev c.n l = true)
 | [], c, prev, _, _, _ => by cases prev <;> simp [encE, fitC]
 | x :: l, c, prev, hn, h1, h2 => by
  have ih := fun h => Kux l (Kbh c x).2 (some x) h (fun p hp => by injection hp with hp; subst hp; exact ⟨by rw [(Kgd c x).1]; omega, (Kgd c x).2⟩) (fun h => by cases h)
  rw [(Kgd c x).1] at ih; rw [encE]
  by_cases h0 : stepE c x = 0
  ·rw [if_neg (by simp [h0])]; obtain ⟨a1, a2, a3, a4⟩ := Ktn h0; rw [ih (by omega)]
   have hp : prevB prev x = true := by
    cases prev with
    | none => rfl
    | some p => obtain ⟨q1, q2⟩ := h1 p rfl; subst q2; exact decide_eq_true (by omega)
   rw [Kqd, hp, decide_eq_true a1, decide_eq_true a2, decide_eq_true (show c.n < 120 by omega)]; simp
  ·rw [if_pos h0]; constructor
   ·intro h; exact absurd h h0
   ·intro h; exfalso; apply h0; rw [Kqd] at h; simp only [Bool.and_eq_true, decide_eq_true_eq] at h; obtain ⟨⟨⟨⟨a1, a2⟩, a3⟩, a4⟩, _⟩ := h; unfold stepE; rw [if_neg (by omega), if_neg, if_neg (by omega)]; rintro ⟨q1, q2⟩
    cases prev with
    | none => have := h2 rfl; omega
    | some p =>
     rw [(h1 p rfl).2] at q2; have a3' : p.t < x.t := of_decide_eq_true a3; omega
theorem Kkt (l : List Smp) : encE cst0 l = 0 ↔ fitC none 0 l = true := Kux l cst0 none (by decide) (fun p h => by cases h) (fun _ => rfl)
def Kdh (l : List Smp) : List UInt8 × Nat := if encE cst0 l = 0 then (Kce l, 0) else ([], encE cst0 l)
set_option maxRecDepth 100000 in
set_option maxHeartbeats 2000000 in
theorem Kjk (l : List Smp) (A : Option Addr) (n cap : Nat) (w : World) (hE : Elems w w.heap.size 2 Kbf A n l) (hn : n ≤ 140737488351232) (hv : ∀ x ∈ l, x.v < 2 ^ 64) (hT : DbTab w) :
  Calls Tryz.prog 117 #[.slice A n cap] w fun e w' => e = .returned (.tuple #[.string ⟨(Kdh l).1.toArray⟩, .int .i64 ((Kdh l).2 : Nat)]) ∧ Below w.heap.size w w' := by
 have hlen := hE.len; have HE := Jh hE; have HV := Jh hv; have hTB : DbAt w.heap.size w := ⟨hT, Kdg (hT 0 (by decide))⟩; have HTB := Jh hTB; obtain ⟨E, hEE⟩ : ∃ E, encE cst0 l = E := ⟨_, rfl⟩; have HEE := Jh hEE; have HLEN := Jh hlen
 have h0 : ChAt w.heap.size w.heap.size cst0 [] (w.alloc (.cells #[.slice none 0 0, .int .i64 0, .int .i64 0, .int .i64 0, .int .u64 0, .int .i64 0, .int .i64 0, .int .i64 0, .bool false] 271)) :=
  ⟨Nat.le_refl _, .slice none 0 0, Blk.new _ _ _, World.ownsRow_nil _ _ _ _, by simp [Value.ownBlock]⟩
 have hb0 : Below w.heap.size w (w.alloc (.cells #[.slice none 0 0, .int .i64 0, .int .i64 0, .int .i64 0, .int .u64 0, .int .i64 0, .int .i64 0, .int .i64 0, .bool false] 271)) := (Below.refl _ _).alloc (Nat.le_refl _) _; clear hE hv hTB hT hEE hlen; go_enter Tryz.func117, Tryz.ntmps117
 go_upto_region 2 with fail
 obtain ⟨w1, hw1⟩ : ∃ w1, w.alloc (.cells #[.slice none 0 0, .int .i64 0, .int .i64 0, .int .i64 0, .int .u64 0, .int .i64 0, .int .i64 0, .int .i64 0, .bool false] 271) = w1 := ⟨_, rfl⟩; rw [hw1] at h0 hb0; rw [hw1]; obtain ⟨B, hB⟩ : ∃ B, w.heap.size = B := ⟨_, rfl⟩; rw [hB] at h0 hb0 HE HTB ⊢; have HB := Jh hB; have H1 := Jh h0; have HB1 := Jh hb0; clear hw1 h0 hb0 hB; go_wp2_with fail
 go_loopg [10] n (fun g s10 wr => ∃ i : Nat, i + g = n ∧ s10 = .int .i64 (i : Int) ∧ i ≤ 120 ∧ encE (stW cst0 (l.take i)) (l.drop i) = E ∧ (stW cst0 (l.take i)).Good ∧ (Kbl cst0 (l.take i)).length ≤ 150 * i ∧ ChAt B B (stW cst0 (l.take i)) (Kbl cst0 (l.take i)) wr ∧ Below B w wr)
 case atStart => exact ⟨0, by omega, rfl, by omega, HEE.out, Cst.good0, by simp [Kbl], H1.out, HB1.out⟩
 case round =>
  obtain ⟨i, hi, rfl, h120, he, hg, hsl, hch, hb⟩ := hrel; have HI := Jh hi; have HEI := Jh he; have HG := Jh hg; have HSL := Jh hsl; have HCH := Jh hch; have HBR := Jh hb; have hBr : B ≤ wr.heap.size := Nat.le_trans (by rw [HB.out]; exact Nat.le_refl _) hb.size; clear he hg hsl hch hb
  by_cases hin : i < n
  ·have hil : i < l.length := by have := HLEN.out; omega
   obtain ⟨bk, off, rfl, hbk, hcell⟩ := HE.out.2 (by omega); have m0 : wr.cell? ⟨bk, off + i * 2, none⟩ = some (.int .i64 l[i].t) := (HBR.out.cell (p := ⟨bk, off + i * 2, none⟩) hbk).trans (by simpa using hcell i l[i] (List.getElem?_eq_getElem hil) 0 _ rfl); have m1 : wr.cell? ⟨bk, off + i * 2 + 1, none⟩ = some (.int .u64 (l[i].v : Int)) := (HBR.out.cell (p := ⟨bk, off + i * 2 + 1, none⟩) hbk).trans (by simpa using hcell i l[i] (List.getElem?_eq_getElem hil) 1 _ rfl); have hvi := HV.out l[i] (List.getElem_mem hil); have hdr : l.drop i = l[i] :: l.drop (i + 1) := List.drop_eq_getElem_cons hil; have htk : l.take (i + 1) = l.take i ++ [l[i]] := List.take_succ_eq_append_getElem hil; obtain ⟨x, hx⟩ : ∃ x, l[i] = x := ⟨_, rfl⟩; rw [hx] at m0 m1 hvi hdr htk; have HDR := Jh hdr; have HTK := Jh htk
   have hnn : (stW cst0 (l.take i)).n = i := by
    rw [stW_n, List.length_take]; show 0 + _ = i
    omega
   obtain ⟨C, hC⟩ : ∃ C, stW cst0 (l.take i) = C := ⟨_, rfl⟩; obtain ⟨L, hL⟩ : ∃ L, Kbl cst0 (l.take i) = L := ⟨_, rfl⟩; rw [hC] at HEI HG HCH hnn; rw [hL] at HSL HCH; have HCC := Jh hC; have HLL := Jh hL; have HX := Jh hx; have el : decide ((i : Int) < (n : Int)) = true := by simp; omega
   have el2 : (i : Int) < (n : Int) := by omega
   clear hi hdr htk hC hL hx hcell; go_upto_region 5 with fail
   have ha : Below wr.heap.size wr (wr.alloc (.cells #[.int .i64 x.t, .int .u64 (x.v : Int)] 102)) := (Below.refl _ _).alloc (Nat.le_refl _) _; have hq : Blk (wr.alloc (.cells #[.int .i64 x.t, .int .u64 (x.v : Int)] 102)) wr.heap.size 102 #[.int .i64 x.t, .int .u64 (x.v : Int)] := Blk.new _ _ _; obtain ⟨w2, hw2⟩ : ∃ w2, wr.alloc (.cells #[.int .i64 x.t, .int .u64 (x.v : Int)] 102) = w2 := ⟨_, rfl⟩; obtain ⟨q, hqq⟩ : ∃ q, wr.heap.size = q := ⟨_, rfl⟩; rw [hw2] at ha hq; rw [hw2]; rw [hqq] at hq; rw [hqq]; have q0 : w2.cell? ⟨q, 0, none⟩ = _ := hq.cell 0; have q1 : w2.cell? ⟨q, 1, none⟩ = _ := hq.cell 1; have HCH2 := Jh (HCH.out.far ha); have HB2 := Jh (HBR.out.trans (ha.mono hBr)); have hB2 : B ≤ w2.heap.size := Nat.le_trans hBr ha.size; have HAP := Jh (Ksv B B C L x w2 HCH2.out HG.out (by omega) hvi (by have := HSL.out; omega) hB2 (HTB.out.below HB2.out)); obtain ⟨se, hse⟩ : ∃ se, stepE C x = se := ⟨_, rfl⟩; rw [hse] at HAP; have HSE := Jh hse; have hei := HEI.out; rw [HDR.out, encE, hse] at hei; have hse92 : se ≤ 92 := by (rw [← hse]; unfold stepE; repeat' split); all_goals omega
   clear ha hq hw2 hqq hse; go_wp2_with fail
   refine HAP.out.mono ?_; rintro _ w3 ⟨rfl, h5, h6, _⟩; have H5 := Jh h5; have HB3 := Jh (HB2.out.trans h6); have hB3 : B ≤ w3.heap.size := Nat.le_trans hB2 h6.size; clear h5 h6 q0 q1
   by_cases hs0 : se = 0
   ·subst hs0; rw [if_neg (by simp)] at hei; have HEN := Jh hei; clear hei; have hok := Ktn HSE.out; go_wp2_with fail
    go_roundg (gk - 1)
    case measure => have := HI.out; omega
    case rel =>
     refine ⟨i + 1, by have := HI.out; omega, by go_num, by have := hok.2.2.2; omega, ?_, ?_, ?_, ?_, HB3.out⟩
     ·rw [HTK.out, Kis, HCC.out]; exact HEN.out
     ·rw [HTK.out, Kis, HCC.out]; exact Klp HG.out ⟨hok.1, hok.2.1, hvi⟩
     ·rw [HTK.out, Kgi, HCC.out, HLL.out, List.length_append]; have := Kza C HG.out.ok x; have := HSL.out; omega
     ·rw [HTK.out, Kis, Kgi, HCC.out, HLL.out]; exact H5.out trivial
   ·rw [if_pos hs0] at hei; have e0 : ((se : Int) != 0) = true := by simp; omega
    have HEN := Jh hei; have HS0 := Jh hs0; clear hei; go_wp2_with fail
    go_ret2
    unfold Kdh; rw [if_neg (by rw [HEE.out, ← HEN.out]; exact HS0.out), HEE.out, ← HEN.out]; exact ⟨rfl, by rw [HB.out]; exact HB3.out⟩
  ·have el : decide ((i : Int) < (n : Int)) = false := by simp; omega
   have hi3 : i = n := by have := HI.out; omega
   subst hi3; have htk : l.take i = l := List.take_of_length_le (by have := HLEN.out; omega); have hdr : l.drop i = [] := List.drop_eq_nil_of_le (by have := HLEN.out; omega)
   have hE0 : E = 0 := by
    have := HEI.out; rw [hdr] at this; exact this.symm
   rw [htk] at HCH HSL HG
   have hnn : (stW cst0 l).n = i := by
    rw [stW_n, HLEN.out]; show 0 + _ = i
    omega
   have HBY := Jh (Kwu B B _ _ wr HCH.out (by omega) (by have := HSL.out; omega) hBr)
   have ho : Kdh l = (uintT i ++ packB (Kbl cst0 l), 0) := by
    unfold Kdh; rw [if_pos (by rw [HEE.out, hE0]), Kce, HLEN.out]
   rw [hnn] at HBY; have HO := Jh ho; obtain ⟨S, hS⟩ : ∃ S : ByteArray, (⟨(uintT i ++ packB (Kbl cst0 l)).toArray⟩ : ByteArray) = S := ⟨_, rfl⟩; rw [hS] at HBY; have HS := Jh hS; clear hnn ho hS htk hdr hE0; go_wp2_with fail
   refine HBY.out.mono ?_; rintro _ w3 ⟨rfl, h6⟩; go_wp2_with fail
   go_ret2
   rw [HO.out, ← HS.out]; exact ⟨rfl, by rw [HB.out]; exact HBR.out.trans (h6.mono hBr)⟩
end Go.Proofs.YtdoiekknhnbepaaGreatDoor
namespace Go.Proofs.YtdoiekknhnbepaaGreatDoor
open Go.RowKit
attribute [local go_sem ↓] Go.wp_at_zero Go.wp_at_succ
attribute [local go_sem] Later.cell
def Kaq (c : Nat) : Ending := .panicked [{ v := .iface 29 (.int .i64 (c : Int)), recovered := false }]
theorem Kag {P : Program} {fn : Func} {R : Ending → World → Prop} {ch : List PanicEntry} {a : Act} {w : World} (hd : a.defers = []) (h : R (.panicked ch) w) : bodyPost P fn R (.panic ch) a w := ⟨hd, h⟩
theorem Kez (r : Value) (c : Nat) (w : World) :
  Calls Tryz.prog 230 #[r, .bool true, .int .i64 (c : Int)] w fun e w' => e = .returned (.tuple #[]) ∧ w = w' := by
 go_enter Tryz.func230, Tryz.ntmps230
 go_wp2
 go_end0
 exact ⟨rfl, rfl⟩
theorem Keh (r : Value) (c : Nat) (w : World) :
  Calls Tryz.prog 230 #[r, .bool false, .int .i64 (c : Int)] w fun e w' => e = Kaq c ∧ w = w' := by
 go_enter Tryz.func230, Tryz.ntmps230
 go_wp2
 exact Kag rfl ⟨rfl, rfl⟩
structure RdrAt (rd rb : Nat) (S : ByteArray) (i : Nat) (c : Cst) (w : World) : Prop where
 r : Blk w rd 290 (.pointer (some ⟨rb, 0, none⟩) :: .slice none 0 0 :: .int .i64 0 :: restC c).toArray
 b : Blk w rb 321 #[.string S, .int .i64 (i : Int)]
theorem RdrAt.ne {rd rb : Nat} {S : ByteArray} {i : Nat} {c : Cst} {w : World} (h : RdrAt rd rb S i c w) : rd ≠ rb := h.r.ne_ h.b (by decide)
theorem RdrAt.below {rd rb : Nat} {S : ByteArray} {i : Nat} {c : Cst} {w w' : World} (h : RdrAt rd rb S i c w) (hb : Below w.heap.size w w') : RdrAt rd rb S i c w' := ⟨h.r.below hb h.r.lt, h.b.below hb h.b.lt⟩
def RdO {α : Type} (rd rb : Nat) (S : ByteArray) (val : α → Value) (w : World) (r : Option (α × Cst × Nat)) (e : Ending) (w' : World) : Prop := match r with
 | some (x, c, j) => e = .returned (val x) ∧ RdrAt rd rb S j c w' ∧ j ≤ 8 * S.size ∧ Kept w.heap.size [rd, rb] w w'
 | none => (∃ f, f ≠ 0 ∧ e = Kaq f) ∧ Kept w.heap.size [rd, rb] w w'
def u64V (v : Nat) : Value := .int .u64 (v : Int)
def bitsR (S : List UInt8) (n : Nat) (c : Cst) (i : Nat) : Option (Nat × Cst × Nat) := match readN S i n with
 | none => none
 | some (v, j) => some (v, c, j)
theorem Kept.one {w w' : World} {a b : Nat} (h : Kept w.heap.size [b] w w') : Kept w.heap.size [a, b] w w' := h.mono (Nat.le_refl _) (fun k _ hk => by simp at hk ⊢; exact .inr hk)
theorem Qek {S : ByteArray} {i n v j : Nat} (h : readN S.data.toList i n = some (v, j)) : j ≤ 8 * S.size ∧ j = i + n := by
 unfold readN at h
 split at h
 ·rename_i h1
  injection h with h; injection h with _ h; have : S.data.toList.length = S.size := rfl; omega
 ·cases h
set_option maxRecDepth 100000 in
set_option maxHeartbeats 1000000 in
theorem Kbr (rd rb i n : Nat) (S : ByteArray) (c : Cst) (w : World) (h : RdrAt rd rb S i c w) (hn : n ≤ 64) (hS : S.size ≤ 140737488351232) (hi : i ≤ 8 * S.size) :
  Calls Tryz.prog 228 #[.pointer (some ⟨rd, 0, none⟩), .int .i64 (n : Int)] w (RdO rd rb S u64V w (bitsR S.data.toList n c i)) := by
 have H := Lib.hid h; have c0 : w.cell? ⟨rd, 0, none⟩ = some (.pointer (some ⟨rb, 0, none⟩)) := h.r.cell 0; obtain ⟨r, hr⟩ : ∃ r, readN S.data.toList i n = r := ⟨_, rfl⟩; have HT := Lib.hid (Kzh rb i n S r hr w h.b hn hS hi); have HR := Lib.hid hr; clear h hr; go_enter Tryz.func228, Tryz.ntmps228
 go_wp2_with fail
 refine HT.out.mono ?_; intro e w2 ho
 cases r with
 | none =>
  obtain ⟨rfl, hb⟩ := ho; go_wp2_with fail
  refine (Keh _ 20 w2).mono ?_; rintro _ _ ⟨rfl, rfl⟩; unfold Kaq; go_wp2_with fail
  refine Kag rfl ?_; unfold bitsR; rw [HR.out]; exact ⟨⟨20, by decide, rfl⟩, Kept.of_below hb⟩
 | some vj =>
  obtain ⟨v, j⟩ := vj; obtain ⟨rfl, hb, hk⟩ := ho; have HB := Lib.hid hb; have HK := Lib.hid hk; clear hb hk; go_wp2_with fail
  refine (Kez _ 20 w2).mono ?_; rintro _ _ ⟨rfl, rfl⟩; go_wp2_with fail
  go_ret
  unfold bitsR; rw [HR.out]; exact ⟨rfl, ⟨H.out.r.kept HK.out H.out.r.lt (by simpa using H.out.ne), HB.out⟩, (Qek HR.out).1, HK.out.one⟩
end Go.Proofs.YtdoiekknhnbepaaGreatDoor
namespace Go.Proofs.YtdoiekknhnbepaaGreatDoor
open Go.RowKit
section
variable {P : Program} {ops : Array Oper} {Q : Exit → Act → World → Prop} {md : Region.Mode} {S : World → Prop} {k : Nat}
def Kcj (P : Program) (md : Region.Mode) (ops : Array Oper) (Q : Exit → Act → World → Prop) (S : World → Prop) (k : Nat) : Nat → Array Bool → Act → World → Prop
 | 0, L, a, w => Region.ready md ops L = [] ∧ Q .normal a w
 | f + 1, L, a, w => (Region.ready md ops L = [] → Q .normal a w) ∧ ∀ i ∈ Region.ready md ops L, wpOp P ops Q i (fun a' w' => ((L.setIfInBounds i true).getD k false = false → S w') ∧ Kcj P md ops Q S k f (L.setIfInBounds i true) a' w') a w
theorem Kne : ∀ (f : Nat) (L : Array Bool) (a : Act) (w : World), Kcj P md ops Q S k f L a w → wpAny P md ops Q f L a w
 | 0, _, _, _, h => h
 | f + 1, _, _, _, h => ⟨h.1, fun i hi => wpOp_mono (fun a' w' h' => Kne f _ a' w' h'.2) (h.2 i hi)⟩
theorem Ksw {i : Nat} {oi : Oper} {v : Value} (hi : ops[i]? = some oi) (hsel : ∀ (j : Nat) (o : Oper) cs b, ops[j]? = some o → o.op ≠ .select cs b)
  (hQ : ∀ c a w, Q (.panic c) (a.put oi.dst v) w → Q (.panic c) a w) (hki : k ≠ i) (hkw : ∀ ok, ops[k]? = some ok → ∃ e ∈ ok.after, Region.binds md e = true ∧ e.on = i) :
  ∀ (f : Nat) (L : Array Bool) (a : Act) (w : World),
   (∀ j oj, ops[j]? = some oj → j ≠ i → L.getD j true = false → (∀ e ∈ oj.after, Region.binds md e = true → e.on ≠ i) → oi.apart ops oj = true) →
   i ∈ Region.ready md ops L → YieldsIf P ops S oi v a → L.getD k false = false → S w →
   Kcj P md ops Q S k f (L.setIfInBounds i true) (a.put oi.dst v) w → Kcj P md ops Q S k (f + 1) L a w := by
 intro f
 induction f with
 | zero =>
  intro L a w hfree hr hy hl hS H; refine ⟨fun h => (by rw [h] at hr; cases hr), fun j hj => ?_⟩
  by_cases hji : j = i
  ·subst hji; exact hy.wpOp hi hS ⟨fun _ => hS, H⟩
  ·have := ready_mono hj hji; rw [H.1] at this; cases this
 | succ f ih =>
  intro L a w hfree hr hy hl hS H; refine ⟨fun h => (by rw [h] at hr; cases hr), fun j hj => ?_⟩
  by_cases hji : j = i
  ·subst hji; exact hy.wpOp hi hS ⟨fun _ => hS, H⟩
  ·have h1 := H.2 j (ready_mono hj hji); obtain ⟨hjun, oj, hoj, hall⟩ := mem_ready.1 hj
   have hnot : ∀ e ∈ oj.after, Region.binds md e = true → e.on ≠ i := fun e he hb heq => by
    have h1 := hall e he hb; have h0 := (mem_ready.1 hr).1; rw [heq] at h1; rcases Nat.lt_or_ge i L.size with h' | h'
    ·simp [h'] at h0 h1; rw [h0] at h1; cases h1
    ·simp [Array.getElem?_eq_none h'] at h1
   have hjk : j ≠ k := by
    rintro rfl; obtain ⟨e, he, hb, heq⟩ := hkw oj hoj; exact hnot e he hb heq
   have h2 := wpOp_putIf hoj (hfree j oj hoj hji hjun hnot) (fun cs b => hsel i oi cs b hi) (fun cs b => hsel j oj cs b hoj) hQ hy h1
   have hfree' : ∀ k ok, ops[k]? = some ok → k ≠ i → (L.setIfInBounds j true).getD k true = false →
     (∀ e ∈ ok.after, Region.binds md e = true → e.on ≠ i) → oi.apart ops ok = true := fun k ok hk hki hun hno => by
    refine hfree k ok hk hki ?_ hno
    by_cases hjk : j = k
    ·subst hjk; exact hjun
    ·rw [getD_set_ne true hjk] at hun; exact hun
   have hl1 : (L.setIfInBounds j true).getD k false = false := by rw [getD_set_ne false hjk]; exact hl
   have hl2 : ((L.setIfInBounds i true).setIfInBounds j true).getD k false = false := by rw [getD_set_ne false hjk, getD_set_ne false (Ne.symm hki)]; exact hl
   refine wpOp_mono (fun a' w' h3 => ⟨fun _ => h3.2.1 hl2, ih (L.setIfInBounds j true) a' w' hfree' (ready_mono hr (Ne.symm hji)) h3.1 hl1 (h3.2.1 hl2) ?_⟩) h2; rw [Array.setIfInBounds_comm _ _ hji]; exact h3.2.2
theorem Ksc {i : Nat} {oi : Oper} {v : Value} (hi : ops[i]? = some oi) (hsel : ∀ (j : Nat) (o : Oper) cs b, ops[j]? = some o → o.op ≠ .select cs b)
  (hQ : ∀ c a w, Q (.panic c) (a.put oi.dst v) w → Q (.panic c) a w) (hki : k ≠ i) :
  ∀ (f : Nat) (L : Array Bool) (a : Act) (w : World),
   (∀ j oj, ops[j]? = some oj → j ≠ i → L.getD j true = false → (∀ e ∈ oj.after, Region.binds md e = true → e.on ≠ i) → oi.apart ops oj = true) →
   i ∈ Region.ready md ops L → YieldsIf P ops (fun _ => True) oi v a → (L.getD k false = false → S w) →
   Kcj P md ops Q S k f (L.setIfInBounds i true) (a.put oi.dst v) w → Kcj P md ops Q S k (f + 1) L a w := by
 have same : ∀ L : Array Bool, (L.setIfInBounds i true).getD k false = L.getD k false := fun L => getD_set_ne false (Ne.symm hki)
 intro f
 induction f with
 | zero =>
  intro L a w hfree hr hy hS H; refine ⟨fun h => (by rw [h] at hr; cases hr), fun j hj => ?_⟩
  by_cases hji : j = i
  ·subst hji; exact hy.wpOp hi trivial ⟨fun h => hS (by rw [same] at h; exact h), H⟩
  ·have := ready_mono hj hji; rw [H.1] at this; cases this
 | succ f ih =>
  intro L a w hfree hr hy hS H; refine ⟨fun h => (by rw [h] at hr; cases hr), fun j hj => ?_⟩
  by_cases hji : j = i
  ·subst hji; exact hy.wpOp hi trivial ⟨fun h => hS (by rw [same] at h; exact h), H⟩
  ·have h1 := H.2 j (ready_mono hj hji); obtain ⟨hjun, oj, hoj, hall⟩ := mem_ready.1 hj
   have hnot : ∀ e ∈ oj.after, Region.binds md e = true → e.on ≠ i := fun e he hb heq => by
    have h1 := hall e he hb; have h0 := (mem_ready.1 hr).1; rw [heq] at h1; rcases Nat.lt_or_ge i L.size with h' | h'
    ·simp [h'] at h0 h1; rw [h0] at h1; cases h1
    ·simp [Array.getElem?_eq_none h'] at h1
   have h2 := wpOp_putIf hoj (hfree j oj hoj hji hjun hnot) (fun cs b => hsel i oi cs b hi) (fun cs b => hsel j oj cs b hoj) hQ hy h1
   have hfree' : ∀ k ok, ops[k]? = some ok → k ≠ i → (L.setIfInBounds j true).getD k true = false →
     (∀ e ∈ ok.after, Region.binds md e = true → e.on ≠ i) → oi.apart ops ok = true := fun k ok hk hki hun hno => by
    refine hfree k ok hk hki ?_ hno
    by_cases hjk : j = k
    ·subst hjk; exact hjun
    ·rw [getD_set_ne true hjk] at hun; exact hun
   have hl2 : ((L.setIfInBounds i true).setIfInBounds j true).getD k false = (L.setIfInBounds j true).getD k false := by
    rw [Array.setIfInBounds_comm _ _ (Ne.symm hji), same]
   refine wpOp_mono (fun a' w' h3 => ⟨fun h => h3.2.1 (by rw [hl2]; exact h), ih (L.setIfInBounds j true) a' w' hfree' (ready_mono hr (Ne.symm hji)) h3.1 (fun h => h3.2.1 (by rw [hl2]; exact h)) ?_⟩) h2; rw [Array.setIfInBounds_comm _ _ hji]; exact h3.2.2
def Ksk (md : Region.Mode) (ops : Array Oper) (k i : Nat) : Bool := k != i && match ops[k]? with | some ok => ok.after.any fun e => Region.binds md e && e.on == i | none => true
theorem Kah {i : Nat} {oi : Oper} {v : Value} {f : Nat} {L : Array Bool} {a : Act} {w : World} {d : Option Tmp} (hi : ops[i]? = some oi) (hd : oi.dst = d)
  (hs : Region.noSelect ops = true) (hf : Region.free md ops L i = true) (hr : (Region.ready md ops L).contains i = true) (hkw : Ksk md ops k i = true) (hl : L.getD k false = false)
  (hQ : ∀ c a w, Q (.panic c) (a.put oi.dst v) w → Q (.panic c) a w) (hy : YieldsIf P ops S oi v a) (hS : S w)
  (h : Kcj P md ops Q S k f (L.setIfInBounds i true) (a.put d v) w) : Kcj P md ops Q S k (f + 1) L a w := by
 subst hd; simp only [Ksk, Bool.and_eq_true, bne_iff_ne, ne_eq] at hkw; refine Ksw hi (Region.noSelect_spec hs) hQ hkw.1 (fun ok hok => ?_) f L a w (Region.free_spec hi hf) (by simpa using hr) hy hl hS h; have h2 := hkw.2; rw [hok] at h2; obtain ⟨e, he, hb⟩ := Array.any_eq_true'.1 h2; simp only [Bool.and_eq_true, beq_iff_eq] at hb; exact ⟨e, he, hb.1, hb.2⟩
theorem Kaa {i : Nat} {oi : Oper} {v : Value} {f : Nat} {L : Array Bool} {a : Act} {w : World} {d : Option Tmp} (hi : ops[i]? = some oi) (hd : oi.dst = d)
  (hs : Region.noSelect ops = true) (hf : Region.free md ops L i = true) (hr : (Region.ready md ops L).contains i = true) (hki : (k != i) = true)
  (hQ : ∀ c a w, Q (.panic c) (a.put oi.dst v) w → Q (.panic c) a w) (hw : Region.wanted oi (yielded ops a.tmps) = true) (hy : ∀ w, (execOp a.eval oi).run P w = .ok (.value v) w) (hS : L.getD k false = false → S w)
  (h : Kcj P md ops Q S k f (L.setIfInBounds i true) (a.put d v) w) : Kcj P md ops Q S k (f + 1) L a w := by
 subst hd; exact Ksc hi (Region.noSelect_spec hs) hQ (by simpa using hki) f L a w (Region.free_spec hi hf) (by simpa using hr) (.inl ⟨hw, fun w _ => hy w⟩) hS h
@[irreducible] def OpW (o : Oper) (P : Program) (a : Act) (w : World) (K : Act → World → Prop) (Q : Exit → Act → World → Prop) : Prop := o.wp P a w K Q
theorem OpW.of {o : Oper} {P : Program} {a : Act} {w : World} {K : Act → World → Prop} {Q : Exit → Act → World → Prop} (h : o.wp P a w K Q) : OpW o P a w K Q := by
 unfold OpW; exact h
theorem OpW.out {o : Oper} {P : Program} {a : Act} {w : World} {K : Act → World → Prop} {Q : Exit → Act → World → Prop} (h : OpW o P a w K Q) : o.wp P a w K Q := by
 unfold OpW at h; exact h
theorem Kac {i : Nat} {o : Oper} {f : Nat} {L : Array Bool} {a : Act} {w : World} (hr0 : (Region.ready md ops L == [i]) = true) (ho : ops[i]? = some o) (hg : o.guard = none)
  (h : OpW o P a w (fun a' w' => ((L.setIfInBounds i true).getD k false = false → S w') ∧ Kcj P md ops Q S k f (L.setIfInBounds i true) a' w') Q) : Kcj P md ops Q S k (f + 1) L a w := by
 have hr : Region.ready md ops L = [i] := eq_of_beq hr0; refine ⟨fun h0 => absurd (hr.symm.trans h0) (by simp), fun j hj => ?_⟩; rw [hr] at hj; obtain rfl : j = i := by simpa using hj
 unfold wpOp; simp only [ho]; rw [if_pos (by simp [Region.wanted, hg])]; exact .inl h.out
theorem Kay {i : Nat} {o : Oper} {f : Nat} {L : Array Bool} {a : Act} {w : World} (hr : (Region.ready md ops L == [i]) = true) (ho : ops[i]? = some o) (hg : o.guard = none) (hL : (L.setIfInBounds i true).getD k false = true)
  (h : OpW o P a w (fun a' w' => Kcj P md ops Q S k f (L.setIfInBounds i true) a' w') Q) : Kcj P md ops Q S k (f + 1) L a w :=
 Kac hr ho hg (.of (Oper.wp_mono (fun a' w' h' => ⟨fun e => absurd (hL.symm.trans e) (by simp), h'⟩) h.out))
theorem Kcz {i j : Nat} {o o' : Oper} {f : Nat} {L : Array Bool} {a : Act} {w : World} (hr0 : (Region.ready md ops L == [i, j]) = true) (ho : ops[i]? = some o) (hg : o.guard = none) (ho' : ops[j]? = some o') (hg' : o'.guard = none)
  (h : OpW o P a w (fun a' w' => ((L.setIfInBounds i true).getD k false = false → S w') ∧ Kcj P md ops Q S k f (L.setIfInBounds i true) a' w') Q)
  (h' : OpW o' P a w (fun a' w' => ((L.setIfInBounds j true).getD k false = false → S w') ∧ Kcj P md ops Q S k f (L.setIfInBounds j true) a' w') Q) : Kcj P md ops Q S k (f + 1) L a w := by
 have hr : Region.ready md ops L = [i, j] := eq_of_beq hr0; refine ⟨fun h0 => absurd (hr.symm.trans h0) (by simp), fun l hl => ?_⟩; rw [hr] at hl; rcases (by simpa using hl : l = i ∨ l = j) with rfl | rfl
 ·unfold wpOp; simp only [ho]; rw [if_pos (by simp [Region.wanted, hg])]; exact .inl h.out
 ·unfold wpOp; simp only [ho']; rw [if_pos (by simp [Region.wanted, hg'])]; exact .inl h'.out
theorem Kao {L : Array Bool} {a : Act} {w : World} (hr : (Region.ready md ops L == []) = true) (h : Q .normal a w) : ∀ f, Kcj P md ops Q S k f L a w
 | 0 => ⟨eq_of_beq hr, h⟩
 | _ + 1 => ⟨fun _ => h, by rw [eq_of_beq hr]; simp⟩
theorem Kas {id : Nat} {a : Act} {w : World} (S : World → Prop) (k n : Nat) (hm : P.follows .mixedOrders = true) (hn : ops.size = n)
  (h : Kcj P .any ops Q S k n (Array.replicate n false) a w.drew) : (Code.region id ops true).wp P Q a w := by
 subst hn; exact wp_region_any hm (Kne _ _ _ _ h)
theorem Oper.wp_ran {o : Oper} {a : Act} {w w' : World} {v : Value} {d : Option Tmp} {K : Act → World → Prop} (hd : o.dst = d) (h : (execOp a.eval o).run P w = .ok (.value v) w') (hK : K (a.put d v) w') : OpW o P a w K Q := .of <| by
 subst hd; unfold Oper.wp; rw [h]; exact hK
theorem Oper.wp_skipped {o : Oper} {a : Act} {w w' : World} {K : Act → World → Prop} (hd : o.dst = none) (h : (execOp a.eval o).run P w = .ok .skip w') (hK : K (a.put none undef) w') : OpW o P a w K Q := .of <| by
 unfold Oper.wp; rw [h]; show K (a.put o.dst undef) w'
 rw [hd]; exact hK
theorem Oper.wp_called {o : Oper} {a : Act} {w w1 : World} {g : FuncId} {args : Array Value} {d : Option Tmp} {K : Act → World → Prop} (hd : o.dst = d) (h : (execOp a.eval o).run P w = .ok (.enter g args) w1) {N : Value → World → Prop}
  (hc : Calls P g args w1 fun e w' => ∃ u, e = .returned u ∧ N u w') (hK : ∀ u w', N u w' → K (a.put d u) w') : OpW o P a w K Q := .of <| by
 subst hd; unfold Oper.wp; rw [h]; refine Calls.mono hc ?_; rintro e w' ⟨u, rfl, hn⟩; exact hK u w' hn
end
end Go.Proofs.YtdoiekknhnbepaaGreatDoor
namespace Go.Proofs.YtdoiekknhnbepaaGreatDoor
open Go.RowKit
open Lib renaming hid → Jh
open List renaming setIfInBounds_toArray → Ja, set_cons_zero → Jb, set_cons_succ → Jc
attribute [local go_sem ↓] Go.wp_at_zero Go.wp_at_succ
attribute [local go_sem] Later.cell
def Rdr (pr : Nat) (S : ByteArray) (i : Nat) (w : World) : Prop := Blk w pr 167 #[.string S, .int .i64 (i : Int)]
def TkO (w : World) (OK : Value → Nat → World → Prop) (BAD : Prop) (e : Ending) (w' : World) : Prop :=
 Below w.heap.size w w' ∧ ((∃ v j, e = .returned (.tuple #[v, .int .i64 ((j : Nat) : Int), .int .i64 0]) ∧ OK v j w') ∨ (BAD ∧ ∃ v n f, f ≠ 0 ∧ e = .returned (.tuple #[v, n, .int .i64 ((f : Nat) : Int)])))
def RdTk (pr : Nat) (w : World) (OK : Value → Nat → World → Prop) (BAD : Prop) (e : Ending) (w' : World) : Prop :=
 (∃ v j w1, e = .returned v ∧ OK v j w1 ∧ Below w.heap.size w w1 ∧ w' = w1.setCell ⟨pr, 1, none⟩ (.int .i64 ((j : Nat) : Int))) ∨ (BAD ∧ ∃ f, f ≠ 0 ∧ e = Kaq f ∧ Below w.heap.size w w')
set_option maxRecDepth 100000 in
set_option maxHeartbeats 2000000 in
theorem Kma (pr i : Nat) (S : ByteArray) (w : World) (h : Rdr pr S i w) (OK : Value → Nat → World → Prop) (BAD : Prop) (hc : Calls Tryz.prog 78 #[.string S, .int .i64 (i : Int)] w.drew (TkO w OK BAD)) :
  Calls Tryz.prog 77 #[.pointer (some ⟨pr, 0, none⟩), .func (.func 78) #[] #[]] w (RdTk pr w OK BAD) := by
 have H := Jh h; have HC := Jh hc; have c0 : w.drew.cell? ⟨pr, 0, none⟩ = some (.string S) := (show Blk w _ _ _ from h).drew.cell 0; have c1 : w.drew.cell? ⟨pr, 1, none⟩ = some (.int .i64 (i : Int)) := (show Blk w _ _ _ from h).drew.cell 1; clear h hc; go_enter Tryz.func77, Tryz.ntmps77
 go_upto_region 1 with fail
 have hS : w.drew.cell? ⟨pr, 0, none⟩ = some (.string S) ∧ w.drew.cell? ⟨pr, 1, none⟩ = some (.int .i64 (i : Int)) := ⟨c0, c1⟩; refine Kas (fun w' => w'.cell? ⟨pr, 0, none⟩ = some (.string S) ∧ w'.cell? ⟨pr, 1, none⟩ = some (.int .i64 (i : Int))) 9 17 (by kernel_rfl) rfl ?_; rw [show Array.replicate 17 false = #[false, false, false, false, false, false, false, false, false, false, false, false, false, false, false, false, false] from rfl]; refine Kaa (i := 0) (d := some 9) rfl rfl (by kernel_rfl) (by kernel_rfl) (by kernel_rfl) rfl (fun _ _ _ h => h) (by rfl) (fun w => by go_simp; try rfl) (fun _ => hS) ?_; simp only [Act.put, Ja, Jb, Jc]; refine Kaa (i := 1) (d := some 10) rfl rfl (by kernel_rfl) (by kernel_rfl) (by kernel_rfl) rfl (fun _ _ _ h => h) (by rfl) (fun w => by go_simp; try rfl) (fun _ => hS) ?_; simp only [Act.put, Ja, Jb, Jc]; refine Kaa (i := 2) (d := some 11) rfl rfl (by kernel_rfl) (by kernel_rfl) (by kernel_rfl) rfl (fun _ _ _ h => h) (by rfl) (fun w => by go_simp; try rfl) (fun _ => hS) ?_; simp only [Act.put, Ja, Jb, Jc]; refine Kaa (i := 3) (d := some 12) rfl rfl (by kernel_rfl) (by kernel_rfl) (by kernel_rfl) rfl (fun _ _ _ h => h) (by rfl) (fun w => by go_simp; try rfl) (fun _ => hS) ?_; simp only [Act.put, Ja, Jb, Jc]; refine Kah (i := 4) (d := some 13) rfl rfl (by kernel_rfl) (by kernel_rfl) (by kernel_rfl) (by kernel_rfl) rfl (fun _ _ _ h => h) (.inl ⟨by rfl, fun w hw => by (obtain ⟨ha, hb⟩ := hw; go_simp; try rfl)⟩) hS ?_; simp only [Act.put, Ja, Jb, Jc]; refine Kaa (i := 5) (d := some 14) rfl rfl (by kernel_rfl) (by kernel_rfl) (by kernel_rfl) rfl (fun _ _ _ h => h) (by rfl) (fun w => by go_simp; try rfl) (fun _ => hS) ?_; simp only [Act.put, Ja, Jb, Jc]; refine Kaa (i := 6) (d := some 15) rfl rfl (by kernel_rfl) (by kernel_rfl) (by kernel_rfl) rfl (fun _ _ _ h => h) (by rfl) (fun w => by go_simp; try rfl) (fun _ => hS) ?_; simp only [Act.put, Ja, Jb, Jc]; refine Kaa (i := 7) (d := some 16) rfl rfl (by kernel_rfl) (by kernel_rfl) (by kernel_rfl) rfl (fun _ _ _ h => h) (by rfl) (fun w => by go_simp; try rfl) (fun _ => hS) ?_; simp only [Act.put, Ja, Jb, Jc]; refine Kah (i := 8) (d := some 17) rfl rfl (by kernel_rfl) (by kernel_rfl) (by kernel_rfl) (by kernel_rfl) rfl (fun _ _ _ h => h) (.inl ⟨by rfl, fun w hw => by (obtain ⟨ha, hb⟩ := hw; go_simp; try rfl)⟩) hS ?_; simp only [Act.put, Ja, Jb, Jc]; refine Kac (i := 9) (by kernel_rfl) rfl rfl ?_; refine Oper.wp_called (d := some 18) (w1 := w.drew) (g := 78) (args := #[.string S, .int .i64 (i : Int)]) rfl (by go_simp; try rfl) (N := fun u w' => Below w.heap.size w w' ∧ ((∃ v j, u = .tuple #[v, .int .i64 ((j : Nat) : Int), .int .i64 0] ∧ OK v j w') ∨ (BAD ∧ ∃ v n f, f ≠ 0 ∧ u = .tuple #[v, n, .int .i64 ((f : Nat) : Int)]))) (HC.out.mono ?_) ?_
 ·rintro _ w2 ⟨hb, ⟨v, j, rfl, hok⟩ | ⟨hbad, v, n, f, hf, rfl⟩⟩
  ·exact ⟨_, rfl, hb, .inl ⟨v, j, rfl, hok⟩⟩
  ·exact ⟨_, rfl, hb, .inr ⟨hbad, v, n, f, hf, rfl⟩⟩
 ·rintro _ w2 ⟨hb, ⟨v, j, rfl, hok⟩ | ⟨hbad, v, n, f, hf, rfl⟩⟩
  ·refine ⟨fun h => absurd h (by decide), ?_⟩; simp only [Act.put, Ja, Jb, Jc]; refine Kaa (i := 10) (d := some 8) rfl rfl (by kernel_rfl) (by kernel_rfl) (by kernel_rfl) rfl (fun _ _ _ h => h) (by rfl) (fun w => by go_simp; try rfl) (fun h => absurd h (by decide)) ?_; simp only [Act.put, Ja, Jb, Jc]; refine Kaa (i := 11) (d := some 19) rfl rfl (by kernel_rfl) (by kernel_rfl) (by kernel_rfl) rfl (fun _ _ _ h => h) (by rfl) (fun w => by go_simp; try rfl) (fun h => absurd h (by decide)) ?_; simp only [Act.put, Ja, Jb, Jc]; refine Kaa (i := 12) (d := some 20) rfl rfl (by kernel_rfl) (by kernel_rfl) (by kernel_rfl) rfl (fun _ _ _ h => h) (by rfl) (fun w => by go_simp; try rfl) (fun h => absurd h (by decide)) ?_; simp only [Act.put, Ja, Jb, Jc]; refine Kaa (i := 13) (d := some 21) rfl rfl (by kernel_rfl) (by kernel_rfl) (by kernel_rfl) rfl (fun _ _ _ h => h) (by rfl) (fun w => by go_simp; try rfl) (fun h => absurd h (by decide)) ?_; simp only [Act.put, Ja, Jb, Jc]; refine Kaa (i := 14) (d := some 5) rfl rfl (by kernel_rfl) (by kernel_rfl) (by kernel_rfl) rfl (fun _ _ _ h => h) (by rfl) (fun w => by go_simp; try rfl) (fun h => absurd h (by decide)) ?_; simp only [Act.put, Ja, Jb, Jc]; refine Kaa (i := 15) (d := some 6) rfl rfl (by kernel_rfl) (by kernel_rfl) (by kernel_rfl) rfl (fun _ _ _ h => h) (by rfl) (fun w => by go_simp; try rfl) (fun h => absurd h (by decide)) ?_; simp only [Act.put, Ja, Jb, Jc]; refine Kaa (i := 16) (d := some 7) rfl rfl (by kernel_rfl) (by kernel_rfl) (by kernel_rfl) rfl (fun _ _ _ h => h) (by rfl) (fun w => by go_simp; try rfl) (fun h => absurd h (by decide)) ?_; simp only [Act.put, Ja, Jb, Jc]; refine Kao (by kernel_rfl) ?_ _; have HOK := Jh hok; have HB := Jh hb; have hq := (show Blk w _ _ _ from H.out).below hb (show Blk w _ _ _ from H.out).lt; have d0 : w2.cell? ⟨pr, 0, none⟩ = some (.string S) := hq.cell 0; have d1 : w2.cell? ⟨pr, 1, none⟩ = some (.int .i64 (i : Int)) := hq.cell 1; have f1 : w2.frozen? ⟨pr, 1, none⟩ = false := hq.frozen 1; clear hok hb hq hS c0 c1; go_wp2_with fail
   go_ret
   exact .inl ⟨v, j, w2, rfl, HOK.out, HB.out, rfl⟩
  ·have e0 : ((f : Int) != 0) = true := by simp; omega
   refine ⟨fun h => absurd h (by decide), ?_⟩; simp only [Act.put, Ja, Jb, Jc]; refine Kaa (i := 10) (d := some 8) rfl rfl (by kernel_rfl) (by kernel_rfl) (by kernel_rfl) rfl (fun _ _ _ h => h) (by rfl) (fun w => by go_simp; try rfl) (fun h => absurd h (by decide)) ?_; simp only [Act.put, Ja, Jb, Jc]; refine Kaa (i := 11) (d := some 19) rfl rfl (by kernel_rfl) (by kernel_rfl) (by kernel_rfl) rfl (fun _ _ _ h => h) (by rfl) (fun w => by go_simp; try rfl) (fun h => absurd h (by decide)) ?_; simp only [Act.put, Ja, Jb, Jc]; refine Kaa (i := 12) (d := some 20) rfl rfl (by kernel_rfl) (by kernel_rfl) (by kernel_rfl) rfl (fun _ _ _ h => h) (by rfl) (fun w => by go_simp; try rfl) (fun h => absurd h (by decide)) ?_; simp only [Act.put, Ja, Jb, Jc]; refine Kaa (i := 13) (d := some 21) rfl rfl (by kernel_rfl) (by kernel_rfl) (by kernel_rfl) rfl (fun _ _ _ h => h) (by rfl) (fun w => by go_simp; try rfl) (fun h => absurd h (by decide)) ?_; simp only [Act.put, Ja, Jb, Jc]; refine Kaa (i := 14) (d := some 5) rfl rfl (by kernel_rfl) (by kernel_rfl) (by kernel_rfl) rfl (fun _ _ _ h => h) (by rfl) (fun w => by go_simp; try rfl) (fun h => absurd h (by decide)) ?_; simp only [Act.put, Ja, Jb, Jc]; refine Kaa (i := 15) (d := some 6) rfl rfl (by kernel_rfl) (by kernel_rfl) (by kernel_rfl) rfl (fun _ _ _ h => h) (by rfl) (fun w => by go_simp; try rfl) (fun h => absurd h (by decide)) ?_; simp only [Act.put, Ja, Jb, Jc]; refine Kaa (i := 16) (d := some 7) rfl rfl (by kernel_rfl) (by kernel_rfl) (by kernel_rfl) rfl (fun _ _ _ h => h) (by rfl) (fun w => by go_simp; try rfl) (fun h => absurd h (by decide)) ?_; simp only [Act.put, Ja, Jb, Jc]; refine Kao (by kernel_rfl) ?_ _; have HB := Jh hb; clear hb hS c0 c1; go_wp2_with fail
   refine Kag rfl ?_; exact .inr ⟨hbad, f, hf, rfl, HB.out⟩
set_option maxRecDepth 100000 in
set_option maxHeartbeats 2000000 in
theorem Klj (pr i : Nat) (S : ByteArray) (w : World) (h : Rdr pr S i w) (OK : Value → Nat → World → Prop) (BAD : Prop) (hc : Calls Tryz.prog 80 #[.string S, .int .i64 (i : Int)] w.drew (TkO w OK BAD)) :
  Calls Tryz.prog 79 #[.pointer (some ⟨pr, 0, none⟩), .func (.func 80) #[] #[]] w (RdTk pr w OK BAD) := by
 have H := Jh h; have HC := Jh hc; have c0 : w.drew.cell? ⟨pr, 0, none⟩ = some (.string S) := (show Blk w _ _ _ from h).drew.cell 0; have c1 : w.drew.cell? ⟨pr, 1, none⟩ = some (.int .i64 (i : Int)) := (show Blk w _ _ _ from h).drew.cell 1; clear h hc; go_enter Tryz.func79, Tryz.ntmps79
 go_upto_region 1 with fail
 have hS : w.drew.cell? ⟨pr, 0, none⟩ = some (.string S) ∧ w.drew.cell? ⟨pr, 1, none⟩ = some (.int .i64 (i : Int)) := ⟨c0, c1⟩; refine Kas (fun w' => w'.cell? ⟨pr, 0, none⟩ = some (.string S) ∧ w'.cell? ⟨pr, 1, none⟩ = some (.int .i64 (i : Int))) 9 17 (by kernel_rfl) rfl ?_; rw [show Array.replicate 17 false = #[false, false, false, false, false, false, false, false, false, false, false, false, false, false, false, false, false] from rfl]; refine Kaa (i := 0) (d := some 9) rfl rfl (by kernel_rfl) (by kernel_rfl) (by kernel_rfl) rfl (fun _ _ _ h => h) (by rfl) (fun w => by go_simp; try rfl) (fun _ => hS) ?_; simp only [Act.put, Ja, Jb, Jc]; refine Kaa (i := 1) (d := some 10) rfl rfl (by kernel_rfl) (by kernel_rfl) (by kernel_rfl) rfl (fun _ _ _ h => h) (by rfl) (fun w => by go_simp; try rfl) (fun _ => hS) ?_; simp only [Act.put, Ja, Jb, Jc]; refine Kaa (i := 2) (d := some 11) rfl rfl (by kernel_rfl) (by kernel_rfl) (by kernel_rfl) rfl (fun _ _ _ h => h) (by rfl) (fun w => by go_simp; try rfl) (fun _ => hS) ?_; simp only [Act.put, Ja, Jb, Jc]; refine Kaa (i := 3) (d := some 12) rfl rfl (by kernel_rfl) (by kernel_rfl) (by kernel_rfl) rfl (fun _ _ _ h => h) (by rfl) (fun w => by go_simp; try rfl) (fun _ => hS) ?_; simp only [Act.put, Ja, Jb, Jc]; refine Kah (i := 4) (d := some 13) rfl rfl (by kernel_rfl) (by kernel_rfl) (by kernel_rfl) (by kernel_rfl) rfl (fun _ _ _ h => h) (.inl ⟨by rfl, fun w hw => by (obtain ⟨ha, hb⟩ := hw; go_simp; try rfl)⟩) hS ?_; simp only [Act.put, Ja, Jb, Jc]; refine Kaa (i := 5) (d := some 14) rfl rfl (by kernel_rfl) (by kernel_rfl) (by kernel_rfl) rfl (fun _ _ _ h => h) (by rfl) (fun w => by go_simp; try rfl) (fun _ => hS) ?_; simp only [Act.put, Ja, Jb, Jc]; refine Kaa (i := 6) (d := some 15) rfl rfl (by kernel_rfl) (by kernel_rfl) (by kernel_rfl) rfl (fun _ _ _ h => h) (by rfl) (fun w => by go_simp; try rfl) (fun _ => hS) ?_; simp only [Act.put, Ja, Jb, Jc]; refine Kaa (i := 7) (d := some 16) rfl rfl (by kernel_rfl) (by kernel_rfl) (by kernel_rfl) rfl (fun _ _ _ h => h) (by rfl) (fun w => by go_simp; try rfl) (fun _ => hS) ?_; simp only [Act.put, Ja, Jb, Jc]; refine Kah (i := 8) (d := some 17) rfl rfl (by kernel_rfl) (by kernel_rfl) (by kernel_rfl) (by kernel_rfl) rfl (fun _ _ _ h => h) (.inl ⟨by rfl, fun w hw => by (obtain ⟨ha, hb⟩ := hw; go_simp; try rfl)⟩) hS ?_; simp only [Act.put, Ja, Jb, Jc]; refine Kac (i := 9) (by kernel_rfl) rfl rfl ?_; refine Oper.wp_called (d := some 18) (w1 := w.drew) (g := 80) (args := #[.string S, .int .i64 (i : Int)]) rfl (by go_simp; try rfl) (N := fun u w' => Below w.heap.size w w' ∧ ((∃ v j, u = .tuple #[v, .int .i64 ((j : Nat) : Int), .int .i64 0] ∧ OK v j w') ∨ (BAD ∧ ∃ v n f, f ≠ 0 ∧ u = .tuple #[v, n, .int .i64 ((f : Nat) : Int)]))) (HC.out.mono ?_) ?_
 ·rintro _ w2 ⟨hb, ⟨v, j, rfl, hok⟩ | ⟨hbad, v, n, f, hf, rfl⟩⟩
  ·exact ⟨_, rfl, hb, .inl ⟨v, j, rfl, hok⟩⟩
  ·exact ⟨_, rfl, hb, .inr ⟨hbad, v, n, f, hf, rfl⟩⟩
 ·rintro _ w2 ⟨hb, ⟨v, j, rfl, hok⟩ | ⟨hbad, v, n, f, hf, rfl⟩⟩
  ·refine ⟨fun h => absurd h (by decide), ?_⟩; simp only [Act.put, Ja, Jb, Jc]; refine Kaa (i := 10) (d := some 8) rfl rfl (by kernel_rfl) (by kernel_rfl) (by kernel_rfl) rfl (fun _ _ _ h => h) (by rfl) (fun w => by go_simp; try rfl) (fun h => absurd h (by decide)) ?_; simp only [Act.put, Ja, Jb, Jc]; refine Kaa (i := 11) (d := some 19) rfl rfl (by kernel_rfl) (by kernel_rfl) (by kernel_rfl) rfl (fun _ _ _ h => h) (by rfl) (fun w => by go_simp; try rfl) (fun h => absurd h (by decide)) ?_; simp only [Act.put, Ja, Jb, Jc]; refine Kaa (i := 12) (d := some 20) rfl rfl (by kernel_rfl) (by kernel_rfl) (by kernel_rfl) rfl (fun _ _ _ h => h) (by rfl) (fun w => by go_simp; try rfl) (fun h => absurd h (by decide)) ?_; simp only [Act.put, Ja, Jb, Jc]; refine Kaa (i := 13) (d := some 21) rfl rfl (by kernel_rfl) (by kernel_rfl) (by kernel_rfl) rfl (fun _ _ _ h => h) (by rfl) (fun w => by go_simp; try rfl) (fun h => absurd h (by decide)) ?_; simp only [Act.put, Ja, Jb, Jc]; refine Kaa (i := 14) (d := some 5) rfl rfl (by kernel_rfl) (by kernel_rfl) (by kernel_rfl) rfl (fun _ _ _ h => h) (by rfl) (fun w => by go_simp; try rfl) (fun h => absurd h (by decide)) ?_; simp only [Act.put, Ja, Jb, Jc]; refine Kaa (i := 15) (d := some 6) rfl rfl (by kernel_rfl) (by kernel_rfl) (by kernel_rfl) rfl (fun _ _ _ h => h) (by rfl) (fun w => by go_simp; try rfl) (fun h => absurd h (by decide)) ?_; simp only [Act.put, Ja, Jb, Jc]; refine Kaa (i := 16) (d := some 7) rfl rfl (by kernel_rfl) (by kernel_rfl) (by kernel_rfl) rfl (fun _ _ _ h => h) (by rfl) (fun w => by go_simp; try rfl) (fun h => absurd h (by decide)) ?_; simp only [Act.put, Ja, Jb, Jc]; refine Kao (by kernel_rfl) ?_ _; have HOK := Jh hok; have HB := Jh hb; have hq := (show Blk w _ _ _ from H.out).below hb (show Blk w _ _ _ from H.out).lt; have d0 : w2.cell? ⟨pr, 0, none⟩ = some (.string S) := hq.cell 0; have d1 : w2.cell? ⟨pr, 1, none⟩ = some (.int .i64 (i : Int)) := hq.cell 1; have f1 : w2.frozen? ⟨pr, 1, none⟩ = false := hq.frozen 1; clear hok hb hq hS c0 c1; go_wp2_with fail
   go_ret
   exact .inl ⟨v, j, w2, rfl, HOK.out, HB.out, rfl⟩
  ·have e0 : ((f : Int) != 0) = true := by simp; omega
   refine ⟨fun h => absurd h (by decide), ?_⟩; simp only [Act.put, Ja, Jb, Jc]; refine Kaa (i := 10) (d := some 8) rfl rfl (by kernel_rfl) (by kernel_rfl) (by kernel_rfl) rfl (fun _ _ _ h => h) (by rfl) (fun w => by go_simp; try rfl) (fun h => absurd h (by decide)) ?_; simp only [Act.put, Ja, Jb, Jc]; refine Kaa (i := 11) (d := some 19) rfl rfl (by kernel_rfl) (by kernel_rfl) (by kernel_rfl) rfl (fun _ _ _ h => h) (by rfl) (fun w => by go_simp; try rfl) (fun h => absurd h (by decide)) ?_; simp only [Act.put, Ja, Jb, Jc]; refine Kaa (i := 12) (d := some 20) rfl rfl (by kernel_rfl) (by kernel_rfl) (by kernel_rfl) rfl (fun _ _ _ h => h) (by rfl) (fun w => by go_simp; try rfl) (fun h => absurd h (by decide)) ?_; simp only [Act.put, Ja, Jb, Jc]; refine Kaa (i := 13) (d := some 21) rfl rfl (by kernel_rfl) (by kernel_rfl) (by kernel_rfl) rfl (fun _ _ _ h => h) (by rfl) (fun w => by go_simp; try rfl) (fun h => absurd h (by decide)) ?_; simp only [Act.put, Ja, Jb, Jc]; refine Kaa (i := 14) (d := some 5) rfl rfl (by kernel_rfl) (by kernel_rfl) (by kernel_rfl) rfl (fun _ _ _ h => h) (by rfl) (fun w => by go_simp; try rfl) (fun h => absurd h (by decide)) ?_; simp only [Act.put, Ja, Jb, Jc]; refine Kaa (i := 15) (d := some 6) rfl rfl (by kernel_rfl) (by kernel_rfl) (by kernel_rfl) rfl (fun _ _ _ h => h) (by rfl) (fun w => by go_simp; try rfl) (fun h => absurd h (by decide)) ?_; simp only [Act.put, Ja, Jb, Jc]; refine Kaa (i := 16) (d := some 7) rfl rfl (by kernel_rfl) (by kernel_rfl) (by kernel_rfl) rfl (fun _ _ _ h => h) (by rfl) (fun w => by go_simp; try rfl) (fun h => absurd h (by decide)) ?_; simp only [Act.put, Ja, Jb, Jc]; refine Kao (by kernel_rfl) ?_ _; have HB := Jh hb; clear hb hS c0 c1; go_wp2_with fail
   refine Kag rfl ?_; exact .inr ⟨hbad, f, hf, rfl, HB.out⟩
set_option maxRecDepth 100000 in
set_option maxHeartbeats 2000000 in
theorem Klq (pr i : Nat) (S : ByteArray) (w : World) (h : Rdr pr S i w) (OK : Value → Nat → World → Prop) (BAD : Prop) (hc : Calls Tryz.prog 91 #[.string S, .int .i64 (i : Int)] w.drew (TkO w OK BAD)) :
  Calls Tryz.prog 90 #[.pointer (some ⟨pr, 0, none⟩), .func (.func 91) #[] #[]] w (RdTk pr w OK BAD) := by
 have H := Jh h; have HC := Jh hc; have c0 : w.drew.cell? ⟨pr, 0, none⟩ = some (.string S) := (show Blk w _ _ _ from h).drew.cell 0; have c1 : w.drew.cell? ⟨pr, 1, none⟩ = some (.int .i64 (i : Int)) := (show Blk w _ _ _ from h).drew.cell 1; clear h hc; go_enter Tryz.func90, Tryz.ntmps90
 go_upto_region 1 with fail
 have hS : w.drew.cell? ⟨pr, 0, none⟩ = some (.string S) ∧ w.drew.cell? ⟨pr, 1, none⟩ = some (.int .i64 (i : Int)) := ⟨c0, c1⟩; refine Kas (fun w' => w'.cell? ⟨pr, 0, none⟩ = some (.string S) ∧ w'.cell? ⟨pr, 1, none⟩ = some (.int .i64 (i : Int))) 9 17 (by kernel_rfl) rfl ?_; rw [show Array.replicate 17 false = #[false, false, false, false, false, false, false, false, false, false, false, false, false, false, false, false, false] from rfl]; refine Kaa (i := 0) (d := some 9) rfl rfl (by kernel_rfl) (by kernel_rfl) (by kernel_rfl) rfl (fun _ _ _ h => h) (by rfl) (fun w => by go_simp; try rfl) (fun _ => hS) ?_; simp only [Act.put, Ja, Jb, Jc]; refine Kaa (i := 1) (d := some 10) rfl rfl (by kernel_rfl) (by kernel_rfl) (by kernel_rfl) rfl (fun _ _ _ h => h) (by rfl) (fun w => by go_simp; try rfl) (fun _ => hS) ?_; simp only [Act.put, Ja, Jb, Jc]; refine Kaa (i := 2) (d := some 11) rfl rfl (by kernel_rfl) (by kernel_rfl) (by kernel_rfl) rfl (fun _ _ _ h => h) (by rfl) (fun w => by go_simp; try rfl) (fun _ => hS) ?_; simp only [Act.put, Ja, Jb, Jc]; refine Kaa (i := 3) (d := some 12) rfl rfl (by kernel_rfl) (by kernel_rfl) (by kernel_rfl) rfl (fun _ _ _ h => h) (by rfl) (fun w => by go_simp; try rfl) (fun _ => hS) ?_; simp only [Act.put, Ja, Jb, Jc]; refine Kah (i := 4) (d := some 13) rfl rfl (by kernel_rfl) (by kernel_rfl) (by kernel_rfl) (by kernel_rfl) rfl (fun _ _ _ h => h) (.inl ⟨by rfl, fun w hw => by (obtain ⟨ha, hb⟩ := hw; go_simp; try rfl)⟩) hS ?_; simp only [Act.put, Ja, Jb, Jc]; refine Kaa (i := 5) (d := some 14) rfl rfl (by kernel_rfl) (by kernel_rfl) (by kernel_rfl) rfl (fun _ _ _ h => h) (by rfl) (fun w => by go_simp; try rfl) (fun _ => hS) ?_; simp only [Act.put, Ja, Jb, Jc]; refine Kaa (i := 6) (d := some 15) rfl rfl (by kernel_rfl) (by kernel_rfl) (by kernel_rfl) rfl (fun _ _ _ h => h) (by rfl) (fun w => by go_simp; try rfl) (fun _ => hS) ?_; simp only [Act.put, Ja, Jb, Jc]; refine Kaa (i := 7) (d := some 16) rfl rfl (by kernel_rfl) (by kernel_rfl) (by kernel_rfl) rfl (fun _ _ _ h => h) (by rfl) (fun w => by go_simp; try rfl) (fun _ => hS) ?_; simp only [Act.put, Ja, Jb, Jc]; refine Kah (i := 8) (d := some 17) rfl rfl (by kernel_rfl) (by kernel_rfl) (by kernel_rfl) (by kernel_rfl) rfl (fun _ _ _ h => h) (.inl ⟨by rfl, fun w hw => by (obtain ⟨ha, hb⟩ := hw; go_simp; try rfl)⟩) hS ?_; simp only [Act.put, Ja, Jb, Jc]; refine Kac (i := 9) (by kernel_rfl) rfl rfl ?_; refine Oper.wp_called (d := some 18) (w1 := w.drew) (g := 91) (args := #[.string S, .int .i64 (i : Int)]) rfl (by go_simp; try rfl) (N := fun u w' => Below w.heap.size w w' ∧ ((∃ v j, u = .tuple #[v, .int .i64 ((j : Nat) : Int), .int .i64 0] ∧ OK v j w') ∨ (BAD ∧ ∃ v n f, f ≠ 0 ∧ u = .tuple #[v, n, .int .i64 ((f : Nat) : Int)]))) (HC.out.mono ?_) ?_
 ·rintro _ w2 ⟨hb, ⟨v, j, rfl, hok⟩ | ⟨hbad, v, n, f, hf, rfl⟩⟩
  ·exact ⟨_, rfl, hb, .inl ⟨v, j, rfl, hok⟩⟩
  ·exact ⟨_, rfl, hb, .inr ⟨hbad, v, n, f, hf, rfl⟩⟩
 ·rintro _ w2 ⟨hb, ⟨v, j, rfl, hok⟩ | ⟨hbad, v, n, f, hf, rfl⟩⟩
  ·refine ⟨fun h => absurd h (by decide), ?_⟩; simp only [Act.put, Ja, Jb, Jc]; refine Kaa (i := 10) (d := some 8) rfl rfl (by kernel_rfl) (by kernel_rfl) (by kernel_rfl) rfl (fun _ _ _ h => h) (by rfl) (fun w => by go_simp; try rfl) (fun h => absurd h (by decide)) ?_; simp only [Act.put, Ja, Jb, Jc]; refine Kaa (i := 11) (d := some 19) rfl rfl (by kernel_rfl) (by kernel_rfl) (by kernel_rfl) rfl (fun _ _ _ h => h) (by rfl) (fun w => by go_simp; try rfl) (fun h => absurd h (by decide)) ?_; simp only [Act.put, Ja, Jb, Jc]; refine Kaa (i := 12) (d := some 20) rfl rfl (by kernel_rfl) (by kernel_rfl) (by kernel_rfl) rfl (fun _ _ _ h => h) (by rfl) (fun w => by go_simp; try rfl) (fun h => absurd h (by decide)) ?_; simp only [Act.put, Ja, Jb, Jc]; refine Kaa (i := 13) (d := some 21) rfl rfl (by kernel_rfl) (by kernel_rfl) (by kernel_rfl) rfl (fun _ _ _ h => h) (by rfl) (fun w => by go_simp; try rfl) (fun h => absurd h (by decide)) ?_; simp only [Act.put, Ja, Jb, Jc]; refine Kaa (i := 14) (d := some 5) rfl rfl (by kernel_rfl) (by kernel_rfl) (by kernel_rfl) rfl (fun _ _ _ h => h) (by rfl) (fun w => by go_simp; try rfl) (fun h => absurd h (by decide)) ?_; simp only [Act.put, Ja, Jb, Jc]; refine Kaa (i := 15) (d := some 6) rfl rfl (by kernel_rfl) (by kernel_rfl) (by kernel_rfl) rfl (fun _ _ _ h => h) (by rfl) (fun w => by go_simp; try rfl) (fun h => absurd h (by decide)) ?_; simp only [Act.put, Ja, Jb, Jc]; refine Kaa (i := 16) (d := some 7) rfl rfl (by kernel_rfl) (by kernel_rfl) (by kernel_rfl) rfl (fun _ _ _ h => h) (by rfl) (fun w => by go_simp; try rfl) (fun h => absurd h (by decide)) ?_; simp only [Act.put, Ja, Jb, Jc]; refine Kao (by kernel_rfl) ?_ _; have HOK := Jh hok; have HB := Jh hb; have hq := (show Blk w _ _ _ from H.out).below hb (show Blk w _ _ _ from H.out).lt; have d0 : w2.cell? ⟨pr, 0, none⟩ = some (.string S) := hq.cell 0; have d1 : w2.cell? ⟨pr, 1, none⟩ = some (.int .i64 (i : Int)) := hq.cell 1; have f1 : w2.frozen? ⟨pr, 1, none⟩ = false := hq.frozen 1; clear hok hb hq hS c0 c1; go_wp2_with fail
   go_ret
   exact .inl ⟨v, j, w2, rfl, HOK.out, HB.out, rfl⟩
  ·have e0 : ((f : Int) != 0) = true := by simp; omega
   refine ⟨fun h => absurd h (by decide), ?_⟩; simp only [Act.put, Ja, Jb, Jc]; refine Kaa (i := 10) (d := some 8) rfl rfl (by kernel_rfl) (by kernel_rfl) (by kernel_rfl) rfl (fun _ _ _ h => h) (by rfl) (fun w => by go_simp; try rfl) (fun h => absurd h (by decide)) ?_; simp only [Act.put, Ja, Jb, Jc]; refine Kaa (i := 11) (d := some 19) rfl rfl (by kernel_rfl) (by kernel_rfl) (by kernel_rfl) rfl (fun _ _ _ h => h) (by rfl) (fun w => by go_simp; try rfl) (fun h => absurd h (by decide)) ?_; simp only [Act.put, Ja, Jb, Jc]; refine Kaa (i := 12) (d := some 20) rfl rfl (by kernel_rfl) (by kernel_rfl) (by kernel_rfl) rfl (fun _ _ _ h => h) (by rfl) (fun w => by go_simp; try rfl) (fun h => absurd h (by decide)) ?_; simp only [Act.put, Ja, Jb, Jc]; refine Kaa (i := 13) (d := some 21) rfl rfl (by kernel_rfl) (by kernel_rfl) (by kernel_rfl) rfl (fun _ _ _ h => h) (by rfl) (fun w => by go_simp; try rfl) (fun h => absurd h (by decide)) ?_; simp only [Act.put, Ja, Jb, Jc]; refine Kaa (i := 14) (d := some 5) rfl rfl (by kernel_rfl) (by kernel_rfl) (by kernel_rfl) rfl (fun _ _ _ h => h) (by rfl) (fun w => by go_simp; try rfl) (fun h => absurd h (by decide)) ?_; simp only [Act.put, Ja, Jb, Jc]; refine Kaa (i := 15) (d := some 6) rfl rfl (by kernel_rfl) (by kernel_rfl) (by kernel_rfl) rfl (fun _ _ _ h => h) (by rfl) (fun w => by go_simp; try rfl) (fun h => absurd h (by decide)) ?_; simp only [Act.put, Ja, Jb, Jc]; refine Kaa (i := 16) (d := some 7) rfl rfl (by kernel_rfl) (by kernel_rfl) (by kernel_rfl) rfl (fun _ _ _ h => h) (by rfl) (fun w => by go_simp; try rfl) (fun h => absurd h (by decide)) ?_; simp only [Act.put, Ja, Jb, Jc]; refine Kao (by kernel_rfl) ?_ _; have HB := Jh hb; clear hb hS c0 c1; go_wp2_with fail
   refine Kag rfl ?_; exact .inr ⟨hbad, f, hf, rfl, HB.out⟩
set_option maxRecDepth 100000 in
set_option maxHeartbeats 2000000 in
theorem Kmg (pr i : Nat) (S : ByteArray) (w : World) (h : Rdr pr S i w) (OK : Value → Nat → World → Prop) (BAD : Prop) (hc : Calls Tryz.prog 148 #[.string S, .int .i64 (i : Int)] w.drew (TkO w OK BAD)) :
  Calls Tryz.prog 147 #[.pointer (some ⟨pr, 0, none⟩), .func (.func 148) #[] #[]] w (RdTk pr w OK BAD) := by
 have H := Jh h; have HC := Jh hc; have c0 : w.drew.cell? ⟨pr, 0, none⟩ = some (.string S) := (show Blk w _ _ _ from h).drew.cell 0; have c1 : w.drew.cell? ⟨pr, 1, none⟩ = some (.int .i64 (i : Int)) := (show Blk w _ _ _ from h).drew.cell 1; clear h hc; go_enter Tryz.func147, Tryz.ntmps147
 go_upto_region 1 with fail
 have hS : w.drew.cell? ⟨pr, 0, none⟩ = some (.string S) ∧ w.drew.cell? ⟨pr, 1, none⟩ = some (.int .i64 (i : Int)) := ⟨c0, c1⟩; refine Kas (fun w' => w'.cell? ⟨pr, 0, none⟩ = some (.string S) ∧ w'.cell? ⟨pr, 1, none⟩ = some (.int .i64 (i : Int))) 9 17 (by kernel_rfl) rfl ?_; rw [show Array.replicate 17 false = #[false, false, false, false, false, false, false, false, false, false, false, false, false, false, false, false, false] from rfl]; refine Kaa (i := 0) (d := some 9) rfl rfl (by kernel_rfl) (by kernel_rfl) (by kernel_rfl) rfl (fun _ _ _ h => h) (by rfl) (fun w => by go_simp; try rfl) (fun _ => hS) ?_; simp only [Act.put, Ja, Jb, Jc]; refine Kaa (i := 1) (d := some 10) rfl rfl (by kernel_rfl) (by kernel_rfl) (by kernel_rfl) rfl (fun _ _ _ h => h) (by rfl) (fun w => by go_simp; try rfl) (fun _ => hS) ?_; simp only [Act.put, Ja, Jb, Jc]; refine Kaa (i := 2) (d := some 11) rfl rfl (by kernel_rfl) (by kernel_rfl) (by kernel_rfl) rfl (fun _ _ _ h => h) (by rfl) (fun w => by go_simp; try rfl) (fun _ => hS) ?_; simp only [Act.put, Ja, Jb, Jc]; refine Kaa (i := 3) (d := some 12) rfl rfl (by kernel_rfl) (by kernel_rfl) (by kernel_rfl) rfl (fun _ _ _ h => h) (by rfl) (fun w => by go_simp; try rfl) (fun _ => hS) ?_; simp only [Act.put, Ja, Jb, Jc]; refine Kah (i := 4) (d := some 13) rfl rfl (by kernel_rfl) (by kernel_rfl) (by kernel_rfl) (by kernel_rfl) rfl (fun _ _ _ h => h) (.inl ⟨by rfl, fun w hw => by (obtain ⟨ha, hb⟩ := hw; go_simp; try rfl)⟩) hS ?_; simp only [Act.put, Ja, Jb, Jc]; refine Kaa (i := 5) (d := some 14) rfl rfl (by kernel_rfl) (by kernel_rfl) (by kernel_rfl) rfl (fun _ _ _ h => h) (by rfl) (fun w => by go_simp; try rfl) (fun _ => hS) ?_; simp only [Act.put, Ja, Jb, Jc]; refine Kaa (i := 6) (d := some 15) rfl rfl (by kernel_rfl) (by kernel_rfl) (by kernel_rfl) rfl (fun _ _ _ h => h) (by rfl) (fun w => by go_simp; try rfl) (fun _ => hS) ?_; simp only [Act.put, Ja, Jb, Jc]; refine Kaa (i := 7) (d := some 16) rfl rfl (by kernel_rfl) (by kernel_rfl) (by kernel_rfl) rfl (fun _ _ _ h => h) (by rfl) (fun w => by go_simp; try rfl) (fun _ => hS) ?_; simp only [Act.put, Ja, Jb, Jc]; refine Kah (i := 8) (d := some 17) rfl rfl (by kernel_rfl) (by kernel_rfl) (by kernel_rfl) (by kernel_rfl) rfl (fun _ _ _ h => h) (.inl ⟨by rfl, fun w hw => by (obtain ⟨ha, hb⟩ := hw; go_simp; try rfl)⟩) hS ?_; simp only [Act.put, Ja, Jb, Jc]; refine Kac (i := 9) (by kernel_rfl) rfl rfl ?_; refine Oper.wp_called (d := some 18) (w1 := w.drew) (g := 148) (args := #[.string S, .int .i64 (i : Int)]) rfl (by go_simp; try rfl) (N := fun u w' => Below w.heap.size w w' ∧ ((∃ v j, u = .tuple #[v, .int .i64 ((j : Nat) : Int), .int .i64 0] ∧ OK v j w') ∨ (BAD ∧ ∃ v n f, f ≠ 0 ∧ u = .tuple #[v, n, .int .i64 ((f : Nat) : Int)]))) (HC.out.mono ?_) ?_
 ·rintro _ w2 ⟨hb, ⟨v, j, rfl, hok⟩ | ⟨hbad, v, n, f, hf, rfl⟩⟩
  ·exact ⟨_, rfl, hb, .inl ⟨v, j, rfl, hok⟩⟩
  ·exact ⟨_, rfl, hb, .inr ⟨hbad, v, n, f, hf, rfl⟩⟩
 ·rintro _ w2 ⟨hb, ⟨v, j, rfl, hok⟩ | ⟨hbad, v, n, f, hf, rfl⟩⟩
  ·refine ⟨fun h => absurd h (by decide), ?_⟩; simp only [Act.put, Ja, Jb, Jc]; refine Kaa (i := 10) (d := some 8) rfl rfl (by kernel_rfl) (by kernel_rfl) (by kernel_rfl) rfl (fun _ _ _ h => h) (by rfl) (fun w => by go_simp; try rfl) (fun h => absurd h (by decide)) ?_; simp only [Act.put, Ja, Jb, Jc]; refine Kaa (i := 11) (d := some 19) rfl rfl (by kernel_rfl) (by kernel_rfl) (by kernel_rfl) rfl (fun _ _ _ h => h) (by rfl) (fun w => by go_simp; try rfl) (fun h => absurd h (by decide)) ?_; simp only [Act.put, Ja, Jb, Jc]; refine Kaa (i := 12) (d := some 20) rfl rfl (by kernel_rfl) (by kernel_rfl) (by kernel_rfl) rfl (fun _ _ _ h => h) (by rfl) (fun w => by go_simp; try rfl) (fun h => absurd h (by decide)) ?_; simp only [Act.put, Ja, Jb, Jc]; refine Kaa (i := 13) (d := some 21) rfl rfl (by kernel_rfl) (by kernel_rfl) (by kernel_rfl) rfl (fun _ _ _ h => h) (by rfl) (fun w => by go_simp; try rfl) (fun h => absurd h (by decide)) ?_; simp only [Act.put, Ja, Jb, Jc]; refine Kaa (i := 14) (d := some 5) rfl rfl (by kernel_rfl) (by kernel_rfl) (by kernel_rfl) rfl (fun _ _ _ h => h) (by rfl) (fun w => by go_simp; try rfl) (fun h => absurd h (by decide)) ?_; simp only [Act.put, Ja, Jb, Jc]; refine Kaa (i := 15) (d := some 6) rfl rfl (by kernel_rfl) (by kernel_rfl) (by kernel_rfl) rfl (fun _ _ _ h => h) (by rfl) (fun w => by go_simp; try rfl) (fun h => absurd h (by decide)) ?_; simp only [Act.put, Ja, Jb, Jc]; refine Kaa (i := 16) (d := some 7) rfl rfl (by kernel_rfl) (by kernel_rfl) (by kernel_rfl) rfl (fun _ _ _ h => h) (by rfl) (fun w => by go_simp; try rfl) (fun h => absurd h (by decide)) ?_; simp only [Act.put, Ja, Jb, Jc]; refine Kao (by kernel_rfl) ?_ _; have HOK := Jh hok; have HB := Jh hb; have hq := (show Blk w _ _ _ from H.out).below hb (show Blk w _ _ _ from H.out).lt; have d0 : w2.cell? ⟨pr, 0, none⟩ = some (.string S) := hq.cell 0; have d1 : w2.cell? ⟨pr, 1, none⟩ = some (.int .i64 (i : Int)) := hq.cell 1; have f1 : w2.frozen? ⟨pr, 1, none⟩ = false := hq.frozen 1; clear hok hb hq hS c0 c1; go_wp2_with fail
   go_ret
   exact .inl ⟨v, j, w2, rfl, HOK.out, HB.out, rfl⟩
  ·have e0 : ((f : Int) != 0) = true := by simp; omega
   refine ⟨fun h => absurd h (by decide), ?_⟩; simp only [Act.put, Ja, Jb, Jc]; refine Kaa (i := 10) (d := some 8) rfl rfl (by kernel_rfl) (by kernel_rfl) (by kernel_rfl) rfl (fun _ _ _ h => h) (by rfl) (fun w => by go_simp; try rfl) (fun h => absurd h (by decide)) ?_; simp only [Act.put, Ja, Jb, Jc]; refine Kaa (i := 11) (d := some 19) rfl rfl (by kernel_rfl) (by kernel_rfl) (by kernel_rfl) rfl (fun _ _ _ h => h) (by rfl) (fun w => by go_simp; try rfl) (fun h => absurd h (by decide)) ?_; simp only [Act.put, Ja, Jb, Jc]; refine Kaa (i := 12) (d := some 20) rfl rfl (by kernel_rfl) (by kernel_rfl) (by kernel_rfl) rfl (fun _ _ _ h => h) (by rfl) (fun w => by go_simp; try rfl) (fun h => absurd h (by decide)) ?_; simp only [Act.put, Ja, Jb, Jc]; refine Kaa (i := 13) (d := some 21) rfl rfl (by kernel_rfl) (by kernel_rfl) (by kernel_rfl) rfl (fun _ _ _ h => h) (by rfl) (fun w => by go_simp; try rfl) (fun h => absurd h (by decide)) ?_; simp only [Act.put, Ja, Jb, Jc]; refine Kaa (i := 14) (d := some 5) rfl rfl (by kernel_rfl) (by kernel_rfl) (by kernel_rfl) rfl (fun _ _ _ h => h) (by rfl) (fun w => by go_simp; try rfl) (fun h => absurd h (by decide)) ?_; simp only [Act.put, Ja, Jb, Jc]; refine Kaa (i := 15) (d := some 6) rfl rfl (by kernel_rfl) (by kernel_rfl) (by kernel_rfl) rfl (fun _ _ _ h => h) (by rfl) (fun w => by go_simp; try rfl) (fun h => absurd h (by decide)) ?_; simp only [Act.put, Ja, Jb, Jc]; refine Kaa (i := 16) (d := some 7) rfl rfl (by kernel_rfl) (by kernel_rfl) (by kernel_rfl) rfl (fun _ _ _ h => h) (by rfl) (fun w => by go_simp; try rfl) (fun h => absurd h (by decide)) ?_; simp only [Act.put, Ja, Jb, Jc]; refine Kao (by kernel_rfl) ?_ _; have HB := Jh hb; clear hb hS c0 c1; go_wp2_with fail
   refine Kag rfl ?_; exact .inr ⟨hbad, f, hf, rfl, HB.out⟩
set_option maxRecDepth 100000 in
set_option maxHeartbeats 2000000 in
theorem Kln (pr i : Nat) (S : ByteArray) (w : World) (h : Rdr pr S i w) (OK : Value → Nat → World → Prop) (BAD : Prop) (hc : Calls Tryz.prog 93 #[.string S, .int .i64 (i : Int)] w.drew (TkO w OK BAD)) :
  Calls Tryz.prog 92 #[.pointer (some ⟨pr, 0, none⟩), .func (.func 93) #[] #[]] w (RdTk pr w OK BAD) := by
 have H := Jh h; have HC := Jh hc; have c0 : w.drew.cell? ⟨pr, 0, none⟩ = some (.string S) := (show Blk w _ _ _ from h).drew.cell 0; have c1 : w.drew.cell? ⟨pr, 1, none⟩ = some (.int .i64 (i : Int)) := (show Blk w _ _ _ from h).drew.cell 1; clear h hc; go_enter Tryz.func92, Tryz.ntmps92
 go_upto_region 1 with fail
 have hS : w.drew.cell? ⟨pr, 0, none⟩ = some (.string S) ∧ w.drew.cell? ⟨pr, 1, none⟩ = some (.int .i64 (i : Int)) := ⟨c0, c1⟩; refine Kas (fun w' => w'.cell? ⟨pr, 0, none⟩ = some (.string S) ∧ w'.cell? ⟨pr, 1, none⟩ = some (.int .i64 (i : Int))) 9 17 (by kernel_rfl) rfl ?_; rw [show Array.replicate 17 false = #[false, false, false, false, false, false, false, false, false, false, false, false, false, false, false, false, false] from rfl]; refine Kaa (i := 0) (d := some 9) rfl rfl (by kernel_rfl) (by kernel_rfl) (by kernel_rfl) rfl (fun _ _ _ h => h) (by rfl) (fun w => by go_simp; try rfl) (fun _ => hS) ?_; simp only [Act.put, Ja, Jb, Jc]; refine Kaa (i := 1) (d := some 10) rfl rfl (by kernel_rfl) (by kernel_rfl) (by kernel_rfl) rfl (fun _ _ _ h => h) (by rfl) (fun w => by go_simp; try rfl) (fun _ => hS) ?_; simp only [Act.put, Ja, Jb, Jc]; refine Kaa (i := 2) (d := some 11) rfl rfl (by kernel_rfl) (by kernel_rfl) (by kernel_rfl) rfl (fun _ _ _ h => h) (by rfl) (fun w => by go_simp; try rfl) (fun _ => hS) ?_; simp only [Act.put, Ja, Jb, Jc]; refine Kaa (i := 3) (d := some 12) rfl rfl (by kernel_rfl) (by kernel_rfl) (by kernel_rfl) rfl (fun _ _ _ h => h) (by rfl) (fun w => by go_simp; try rfl) (fun _ => hS) ?_; simp only [Act.put, Ja, Jb, Jc]; refine Kah (i := 4) (d := some 13) rfl rfl (by kernel_rfl) (by kernel_rfl) (by kernel_rfl) (by kernel_rfl) rfl (fun _ _ _ h => h) (.inl ⟨by rfl, fun w hw => by (obtain ⟨ha, hb⟩ := hw; go_simp; try rfl)⟩) hS ?_; simp only [Act.put, Ja, Jb, Jc]; refine Kaa (i := 5) (d := some 14) rfl rfl (by kernel_rfl) (by kernel_rfl) (by kernel_rfl) rfl (fun _ _ _ h => h) (by rfl) (fun w => by go_simp; try rfl) (fun _ => hS) ?_; simp only [Act.put, Ja, Jb, Jc]; refine Kaa (i := 6) (d := some 15) rfl rfl (by kernel_rfl) (by kernel_rfl) (by kernel_rfl) rfl (fun _ _ _ h => h) (by rfl) (fun w => by go_simp; try rfl) (fun _ => hS) ?_; simp only [Act.put, Ja, Jb, Jc]; refine Kaa (i := 7) (d := some 16) rfl rfl (by kernel_rfl) (by kernel_rfl) (by kernel_rfl) rfl (fun _ _ _ h => h) (by rfl) (fun w => by go_simp; try rfl) (fun _ => hS) ?_; simp only [Act.put, Ja, Jb, Jc]; refine Kah (i := 8) (d := some 17) rfl rfl (by kernel_rfl) (by kernel_rfl) (by kernel_rfl) (by kernel_rfl) rfl (fun _ _ _ h => h) (.inl ⟨by rfl, fun w hw => by (obtain ⟨ha, hb⟩ := hw; go_simp; try rfl)⟩) hS ?_; simp only [Act.put, Ja, Jb, Jc]; refine Kac (i := 9) (by kernel_rfl) rfl rfl ?_; refine Oper.wp_called (d := some 18) (w1 := w.drew) (g := 93) (args := #[.string S, .int .i64 (i : Int)]) rfl (by go_simp; try rfl) (N := fun u w' => Below w.heap.size w w' ∧ ((∃ v j, u = .tuple #[v, .int .i64 ((j : Nat) : Int), .int .i64 0] ∧ OK v j w') ∨ (BAD ∧ ∃ v n f, f ≠ 0 ∧ u = .tuple #[v, n, .int .i64 ((f : Nat) : Int)]))) (HC.out.mono ?_) ?_
 ·rintro _ w2 ⟨hb, ⟨v, j, rfl, hok⟩ | ⟨hbad, v, n, f, hf, rfl⟩⟩
  ·exact ⟨_, rfl, hb, .inl ⟨v, j, rfl, hok⟩⟩
  ·exact ⟨_, rfl, hb, .inr ⟨hbad, v, n, f, hf, rfl⟩⟩
 ·rintro _ w2 ⟨hb, ⟨v, j, rfl, hok⟩ | ⟨hbad, v, n, f, hf, rfl⟩⟩
  ·refine ⟨fun h => absurd h (by decide), ?_⟩; simp only [Act.put, Ja, Jb, Jc]; refine Kaa (i := 10) (d := some 8) rfl rfl (by kernel_rfl) (by kernel_rfl) (by kernel_rfl) rfl (fun _ _ _ h => h) (by rfl) (fun w => by go_simp; try rfl) (fun h => absurd h (by decide)) ?_; simp only [Act.put, Ja, Jb, Jc]; refine Kaa (i := 11) (d := some 19) rfl rfl (by kernel_rfl) (by kernel_rfl) (by kernel_rfl) rfl (fun _ _ _ h => h) (by rfl) (fun w => by go_simp; try rfl) (fun h => absurd h (by decide)) ?_; simp only [Act.put, Ja, Jb, Jc]; refine Kaa (i := 12) (d := some 20) rfl rfl (by kernel_rfl) (by kernel_rfl) (by kernel_rfl) rfl (fun _ _ _ h => h) (by rfl) (fun w => by go_simp; try rfl) (fun h => absurd h (by decide)) ?_; simp only [Act.put, Ja, Jb, Jc]; refine Kaa (i := 13) (d := some 21) rfl rfl (by kernel_rfl) (by kernel_rfl) (by kernel_rfl) rfl (fun _ _ _ h => h) (by rfl) (fun w => by go_simp; try rfl) (fun h => absurd h (by decide)) ?_; simp only [Act.put, Ja, Jb, Jc]; refine Kaa (i := 14) (d := some 5) rfl rfl (by kernel_rfl) (by kernel_rfl) (by kernel_rfl) rfl (fun _ _ _ h => h) (by rfl) (fun w => by go_simp; try rfl) (fun h => absurd h (by decide)) ?_; simp only [Act.put, Ja, Jb, Jc]; refine Kaa (i := 15) (d := some 6) rfl rfl (by kernel_rfl) (by kernel_rfl) (by kernel_rfl) rfl (fun _ _ _ h => h) (by rfl) (fun w => by go_simp; try rfl) (fun h => absurd h (by decide)) ?_; simp only [Act.put, Ja, Jb, Jc]; refine Kaa (i := 16) (d := some 7) rfl rfl (by kernel_rfl) (by kernel_rfl) (by kernel_rfl) rfl (fun _ _ _ h => h) (by rfl) (fun w => by go_simp; try rfl) (fun h => absurd h (by decide)) ?_; simp only [Act.put, Ja, Jb, Jc]; refine Kao (by kernel_rfl) ?_ _; have HOK := Jh hok; have HB := Jh hb; have hq := (show Blk w _ _ _ from H.out).below hb (show Blk w _ _ _ from H.out).lt; have d0 : w2.cell? ⟨pr, 0, none⟩ = some (.string S) := hq.cell 0; have d1 : w2.cell? ⟨pr, 1, none⟩ = some (.int .i64 (i : Int)) := hq.cell 1; have f1 : w2.frozen? ⟨pr, 1, none⟩ = false := hq.frozen 1; clear hok hb hq hS c0 c1; go_wp2_with fail
   go_ret
   exact .inl ⟨v, j, w2, rfl, HOK.out, HB.out, rfl⟩
  ·have e0 : ((f : Int) != 0) = true := by simp; omega
   refine ⟨fun h => absurd h (by decide), ?_⟩; simp only [Act.put, Ja, Jb, Jc]; refine Kaa (i := 10) (d := some 8) rfl rfl (by kernel_rfl) (by kernel_rfl) (by kernel_rfl) rfl (fun _ _ _ h => h) (by rfl) (fun w => by go_simp; try rfl) (fun h => absurd h (by decide)) ?_; simp only [Act.put, Ja, Jb, Jc]; refine Kaa (i := 11) (d := some 19) rfl rfl (by kernel_rfl) (by kernel_rfl) (by kernel_rfl) rfl (fun _ _ _ h => h) (by rfl) (fun w => by go_simp; try rfl) (fun h => absurd h (by decide)) ?_; simp only [Act.put, Ja, Jb, Jc]; refine Kaa (i := 12) (d := some 20) rfl rfl (by kernel_rfl) (by kernel_rfl) (by kernel_rfl) rfl (fun _ _ _ h => h) (by rfl) (fun w => by go_simp; try rfl) (fun h => absurd h (by decide)) ?_; simp only [Act.put, Ja, Jb, Jc]; refine Kaa (i := 13) (d := some 21) rfl rfl (by kernel_rfl) (by kernel_rfl) (by kernel_rfl) rfl (fun _ _ _ h => h) (by rfl) (fun w => by go_simp; try rfl) (fun h => absurd h (by decide)) ?_; simp only [Act.put, Ja, Jb, Jc]; refine Kaa (i := 14) (d := some 5) rfl rfl (by kernel_rfl) (by kernel_rfl) (by kernel_rfl) rfl (fun _ _ _ h => h) (by rfl) (fun w => by go_simp; try rfl) (fun h => absurd h (by decide)) ?_; simp only [Act.put, Ja, Jb, Jc]; refine Kaa (i := 15) (d := some 6) rfl rfl (by kernel_rfl) (by kernel_rfl) (by kernel_rfl) rfl (fun _ _ _ h => h) (by rfl) (fun w => by go_simp; try rfl) (fun h => absurd h (by decide)) ?_; simp only [Act.put, Ja, Jb, Jc]; refine Kaa (i := 16) (d := some 7) rfl rfl (by kernel_rfl) (by kernel_rfl) (by kernel_rfl) rfl (fun _ _ _ h => h) (by rfl) (fun w => by go_simp; try rfl) (fun h => absurd h (by decide)) ?_; simp only [Act.put, Ja, Jb, Jc]; refine Kao (by kernel_rfl) ?_ _; have HB := Jh hb; clear hb hS c0 c1; go_wp2_with fail
   refine Kag rfl ?_; exact .inr ⟨hbad, f, hf, rfl, HB.out⟩
set_option maxRecDepth 100000 in
set_option maxHeartbeats 2000000 in
theorem Kmi (pr i : Nat) (S : ByteArray) (tv : Value) (w : World) (h : Rdr pr S i w) (OK : Value → Nat → World → Prop) (BAD : Prop) (hc : Calls Tryz.prog 150 #[tv, .string S, .int .i64 (i : Int)] w.drew (TkO w OK BAD)) :
  Calls Tryz.prog 149 #[.pointer (some ⟨pr, 0, none⟩), .func (.func 150) #[tv] #[]] w (RdTk pr w OK BAD) := by
 have H := Jh h; have HC := Jh hc; have c0 : w.drew.cell? ⟨pr, 0, none⟩ = some (.string S) := (show Blk w _ _ _ from h).drew.cell 0; have c1 : w.drew.cell? ⟨pr, 1, none⟩ = some (.int .i64 (i : Int)) := (show Blk w _ _ _ from h).drew.cell 1; clear h hc; go_enter Tryz.func149, Tryz.ntmps149
 go_upto_region 1 with fail
 have hS : w.drew.cell? ⟨pr, 0, none⟩ = some (.string S) ∧ w.drew.cell? ⟨pr, 1, none⟩ = some (.int .i64 (i : Int)) := ⟨c0, c1⟩; refine Kas (fun w' => w'.cell? ⟨pr, 0, none⟩ = some (.string S) ∧ w'.cell? ⟨pr, 1, none⟩ = some (.int .i64 (i : Int))) 9 17 (by kernel_rfl) rfl ?_; rw [show Array.replicate 17 false = #[false, false, false, false, false, false, false, false, false, false, false, false, false, false, false, false, false] from rfl]; refine Kaa (i := 0) (d := some 9) rfl rfl (by kernel_rfl) (by kernel_rfl) (by kernel_rfl) rfl (fun _ _ _ h => h) (by rfl) (fun w => by go_simp; try rfl) (fun _ => hS) ?_; simp only [Act.put, Ja, Jb, Jc]; refine Kaa (i := 1) (d := some 10) rfl rfl (by kernel_rfl) (by kernel_rfl) (by kernel_rfl) rfl (fun _ _ _ h => h) (by rfl) (fun w => by go_simp; try rfl) (fun _ => hS) ?_; simp only [Act.put, Ja, Jb, Jc]; refine Kaa (i := 2) (d := some 11) rfl rfl (by kernel_rfl) (by kernel_rfl) (by kernel_rfl) rfl (fun _ _ _ h => h) (by rfl) (fun w => by go_simp; try rfl) (fun _ => hS) ?_; simp only [Act.put, Ja, Jb, Jc]; refine Kaa (i := 3) (d := some 12) rfl rfl (by kernel_rfl) (by kernel_rfl) (by kernel_rfl) rfl (fun _ _ _ h => h) (by rfl) (fun w => by go_simp; try rfl) (fun _ => hS) ?_; simp only [Act.put, Ja, Jb, Jc]; refine Kah (i := 4) (d := some 13) rfl rfl (by kernel_rfl) (by kernel_rfl) (by kernel_rfl) (by kernel_rfl) rfl (fun _ _ _ h => h) (.inl ⟨by rfl, fun w hw => by (obtain ⟨ha, hb⟩ := hw; go_simp; try rfl)⟩) hS ?_; simp only [Act.put, Ja, Jb, Jc]; refine Kaa (i := 5) (d := some 14) rfl rfl (by kernel_rfl) (by kernel_rfl) (by kernel_rfl) rfl (fun _ _ _ h => h) (by rfl) (fun w => by go_simp; try rfl) (fun _ => hS) ?_; simp only [Act.put, Ja, Jb, Jc]; refine Kaa (i := 6) (d := some 15) rfl rfl (by kernel_rfl) (by kernel_rfl) (by kernel_rfl) rfl (fun _ _ _ h => h) (by rfl) (fun w => by go_simp; try rfl) (fun _ => hS) ?_; simp only [Act.put, Ja, Jb, Jc]; refine Kaa (i := 7) (d := some 16) rfl rfl (by kernel_rfl) (by kernel_rfl) (by kernel_rfl) rfl (fun _ _ _ h => h) (by rfl) (fun w => by go_simp; try rfl) (fun _ => hS) ?_; simp only [Act.put, Ja, Jb, Jc]; refine Kah (i := 8) (d := some 17) rfl rfl (by kernel_rfl) (by kernel_rfl) (by kernel_rfl) (by kernel_rfl) rfl (fun _ _ _ h => h) (.inl ⟨by rfl, fun w hw => by (obtain ⟨ha, hb⟩ := hw; go_simp; try rfl)⟩) hS ?_; simp only [Act.put, Ja, Jb, Jc]; refine Kac (i := 9) (by kernel_rfl) rfl rfl ?_; refine Oper.wp_called (d := some 18) (w1 := w.drew) (g := 150) (args := #[tv, .string S, .int .i64 (i : Int)]) rfl (by go_simp; try rfl) (N := fun u w' => Below w.heap.size w w' ∧ ((∃ v j, u = .tuple #[v, .int .i64 ((j : Nat) : Int), .int .i64 0] ∧ OK v j w') ∨ (BAD ∧ ∃ v n f, f ≠ 0 ∧ u = .tuple #[v, n, .int .i64 ((f : Nat) : Int)]))) (HC.out.mono ?_) ?_
 ·rintro _ w2 ⟨hb, ⟨v, j, rfl, hok⟩ | ⟨hbad, v, n, f, hf, rfl⟩⟩
  ·exact ⟨_, rfl, hb, .inl ⟨v, j, rfl, hok⟩⟩
  ·exact ⟨_, rfl, hb, .inr ⟨hbad, v, n, f, hf, rfl⟩⟩
 ·rintro _ w2 ⟨hb, ⟨v, j, rfl, hok⟩ | ⟨hbad, v, n, f, hf, rfl⟩⟩
  ·refine ⟨fun h => absurd h (by decide), ?_⟩; simp only [Act.put, Ja, Jb, Jc]; refine Kaa (i := 10) (d := some 8) rfl rfl (by kernel_rfl) (by kernel_rfl) (by kernel_rfl) rfl (fun _ _ _ h => h) (by rfl) (fun w => by go_simp; try rfl) (fun h => absurd h (by decide)) ?_; simp only [Act.put, Ja, Jb, Jc]; refine Kaa (i := 11) (d := some 19) rfl rfl (by kernel_rfl) (by kernel_rfl) (by kernel_rfl) rfl (fun _ _ _ h => h) (by rfl) (fun w => by go_simp; try rfl) (fun h => absurd h (by decide)) ?_; simp only [Act.put, Ja, Jb, Jc]; refine Kaa (i := 12) (d := some 20) rfl rfl (by kernel_rfl) (by kernel_rfl) (by kernel_rfl) rfl (fun _ _ _ h => h) (by rfl) (fun w => by go_simp; try rfl) (fun h => absurd h (by decide)) ?_; simp only [Act.put, Ja, Jb, Jc]; refine Kaa (i := 13) (d := some 21) rfl rfl (by kernel_rfl) (by kernel_rfl) (by kernel_rfl) rfl (fun _ _ _ h => h) (by rfl) (fun w => by go_simp; try rfl) (fun h => absurd h (by decide)) ?_; simp only [Act.put, Ja, Jb, Jc]; refine Kaa (i := 14) (d := some 5) rfl rfl (by kernel_rfl) (by kernel_rfl) (by kernel_rfl) rfl (fun _ _ _ h => h) (by rfl) (fun w => by go_simp; try rfl) (fun h => absurd h (by decide)) ?_; simp only [Act.put, Ja, Jb, Jc]; refine Kaa (i := 15) (d := some 6) rfl rfl (by kernel_rfl) (by kernel_rfl) (by kernel_rfl) rfl (fun _ _ _ h => h) (by rfl) (fun w => by go_simp; try rfl) (fun h => absurd h (by decide)) ?_; simp only [Act.put, Ja, Jb, Jc]; refine Kaa (i := 16) (d := some 7) rfl rfl (by kernel_rfl) (by kernel_rfl) (by kernel_rfl) rfl (fun _ _ _ h => h) (by rfl) (fun w => by go_simp; try rfl) (fun h => absurd h (by decide)) ?_; simp only [Act.put, Ja, Jb, Jc]; refine Kao (by kernel_rfl) ?_ _; have HOK := Jh hok; have HB := Jh hb; have hq := (show Blk w _ _ _ from H.out).below hb (show Blk w _ _ _ from H.out).lt; have d0 : w2.cell? ⟨pr, 0, none⟩ = some (.string S) := hq.cell 0; have d1 : w2.cell? ⟨pr, 1, none⟩ = some (.int .i64 (i : Int)) := hq.cell 1; have f1 : w2.frozen? ⟨pr, 1, none⟩ = false := hq.frozen 1; clear hok hb hq hS c0 c1; go_wp2_with fail
   go_ret
   exact .inl ⟨v, j, w2, rfl, HOK.out, HB.out, rfl⟩
  ·have e0 : ((f : Int) != 0) = true := by simp; omega
   refine ⟨fun h => absurd h (by decide), ?_⟩; simp only [Act.put, Ja, Jb, Jc]; refine Kaa (i := 10) (d := some 8) rfl rfl (by kernel_rfl) (by kernel_rfl) (by kernel_rfl) rfl (fun _ _ _ h => h) (by rfl) (fun w => by go_simp; try rfl) (fun h => absurd h (by decide)) ?_; simp only [Act.put, Ja, Jb, Jc]; refine Kaa (i := 11) (d := some 19) rfl rfl (by kernel_rfl) (by kernel_rfl) (by kernel_rfl) rfl (fun _ _ _ h => h) (by rfl) (fun w => by go_simp; try rfl) (fun h => absurd h (by decide)) ?_; simp only [Act.put, Ja, Jb, Jc]; refine Kaa (i := 12) (d := some 20) rfl rfl (by kernel_rfl) (by kernel_rfl) (by kernel_rfl) rfl (fun _ _ _ h => h) (by rfl) (fun w => by go_simp; try rfl) (fun h => absurd h (by decide)) ?_; simp only [Act.put, Ja, Jb, Jc]; refine Kaa (i := 13) (d := some 21) rfl rfl (by kernel_rfl) (by kernel_rfl) (by kernel_rfl) rfl (fun _ _ _ h => h) (by rfl) (fun w => by go_simp; try rfl) (fun h => absurd h (by decide)) ?_; simp only [Act.put, Ja, Jb, Jc]; refine Kaa (i := 14) (d := some 5) rfl rfl (by kernel_rfl) (by kernel_rfl) (by kernel_rfl) rfl (fun _ _ _ h => h) (by rfl) (fun w => by go_simp; try rfl) (fun h => absurd h (by decide)) ?_; simp only [Act.put, Ja, Jb, Jc]; refine Kaa (i := 15) (d := some 6) rfl rfl (by kernel_rfl) (by kernel_rfl) (by kernel_rfl) rfl (fun _ _ _ h => h) (by rfl) (fun w => by go_simp; try rfl) (fun h => absurd h (by decide)) ?_; simp only [Act.put, Ja, Jb, Jc]; refine Kaa (i := 16) (d := some 7) rfl rfl (by kernel_rfl) (by kernel_rfl) (by kernel_rfl) rfl (fun _ _ _ h => h) (by rfl) (fun w => by go_simp; try rfl) (fun h => absurd h (by decide)) ?_; simp only [Act.put, Ja, Jb, Jc]; refine Kao (by kernel_rfl) ?_ _; have HB := Jh hb; clear hb hS c0 c1; go_wp2_with fail
   refine Kag rfl ?_; exact .inr ⟨hbad, f, hf, rfl, HB.out⟩
end Go.Proofs.YtdoiekknhnbepaaGreatDoor
namespace Go.Proofs.YtdoiekknhnbepaaGreatDoor
def zig (v : Int) : Nat := if 0 ≤ v then (2 * v).toNat else (-2 * v - 1).toNat
def unzig (n : Nat) : Int := if n % 2 = 0 then ((n / 2 : Nat) : Int) else -((n / 2 : Nat) : Int) - 1
theorem Qbp (v : Int) : unzig (zig v) = v := by
 unfold unzig zig
 split <;> split <;> omega
theorem Kot {v : Int} (h1 : -9223372036854775808 ≤ v) (h2 : v ≤ 9223372036854775807) : zig v < 2 ^ 64 := by
 unfold zig
 split <;> omega
def intT (v : Int) : List UInt8 := uintT (zig v)
def readI (l : List UInt8) : Except Nat (Int × Nat) := match readU l with | .error e => .error e | .ok (v, k) => .ok (unzig v, k)
theorem Qcy {v : Int} (h1 : -9223372036854775808 ≤ v) (h2 : v ≤ 9223372036854775807) (l : List UInt8) : readI (intT v ++ l) = .ok (v, (intT v).length) := by
 unfold readI intT; rw [Ken (Kot h1 h2)]; simp only [Qbp]
def nibs : List Nat := [0x00000000, 0x105ec76f, 0x20bd8ede, 0x30e349b1, 0x417b1dbc, 0x5125dad3, 0x61c69362, 0x7198540d, 0x82f63b78, 0x92a8fc17, 0xa24bb5a6, 0xb21572c9, 0xc38d26c4, 0xd3d3e1ab, 0xe330a81a, 0xf36e6f75]
def nibN (c : Nat) : Nat := nibs.getD (c % 16) 0 ^^^ (c / 16)
def crcB (c : Nat) (b : UInt8) : Nat := nibN (nibN (c ^^^ b.toNat))
def crcF (c : Nat) (l : List UInt8) : Nat := l.foldl crcB c
def crcL (l : List UInt8) : Nat := crcF 4294967295 l ^^^ 4294967295
theorem Kxv : ∀ i, nibs.getD i 0 < 4294967296 := by
 intro i
 by_cases h : i < 16
 ·revert i
  decide
 ·have : nibs.length ≤ i := by simp [nibs]; omega
  rw [List.getD_eq_getElem?_getD, List.getElem?_eq_none this]; decide
theorem Khd {a b : Nat} (ha : a < 4294967296) (hb : b < 4294967296) : a ^^^ b < 4294967296 := Nat.xor_lt_two_pow (n := 32) ha hb
theorem Klf {c : Nat} (h : c < 4294967296) : nibN c < 4294967296 := Khd (Kxv _) (by omega)
theorem Qgp {c : Nat} (h : c < 4294967296) (b : UInt8) : crcB c b < 4294967296 := Klf (Klf (Khd h (by have := UInt8.toNat_lt b; omega)))
theorem Kxz : ∀ (l : List UInt8) {c : Nat}, c < 4294967296 → crcF c l < 4294967296
 | [], _, h => h
 | b :: l, _, h => Kxz l (Qgp h b)
theorem Kxl (l : List UInt8) : crcL l < 4294967296 := Khd (Kxz l (by decide)) (by decide)
theorem Kvs (c : Nat) (l m : List UInt8) : crcF c (l ++ m) = crcF (crcF c l) m := by unfold crcF; rw [List.foldl_append]
theorem Qdb (c : Nat) (l : List UInt8) (b : UInt8) : crcF c (l ++ [b]) = crcB (crcF c l) b := by rw [Kvs]; rfl
def fourT (v : Nat) : List UInt8 := [UInt8.ofNat v, UInt8.ofNat (v / 256), UInt8.ofNat (v / 65536), UInt8.ofNat (v / 16777216)]
def numT (l : List UInt8) : Nat := match l with | a :: b :: c :: d :: _ => a.toNat + 256 * b.toNat + 65536 * c.toNat + 16777216 * d.toNat | _ => 0
theorem Qdd {v : Nat} (h : v < 4294967296) (r : List UInt8) : numT (fourT v ++ r) = v := by
 simp only [fourT, List.cons_append, numT, UInt8.toNat_ofNat']; omega
def sealT (b : List UInt8) : List UInt8 := b ++ fourT (crcL b)
def Kau (s : List UInt8) : Except Nat (List UInt8) := if s.length < 4 then .error 20 else if crcL (s.take (s.length - 4)) = numT (s.drop (s.length - 4)) then .ok (s.take (s.length - 4)) else .error 22
theorem Kfy (b : List UInt8) : (sealT b).length = b.length + 4 := by simp [sealT, fourT]
theorem Klt (b : List UInt8) : Kau (sealT b) = .ok b := by
 unfold Kau; have h1 : (sealT b).length - 4 = b.length := by rw [Kfy]; omega
 rw [h1, if_neg (by rw [Kfy]; omega)]; have h2 : (sealT b).take b.length = b := by simp [sealT]
 have h3 : (sealT b).drop b.length = fourT (crcL b) := by simp [sealT]
 rw [h2, h3]; have h4 := Qdd (Kxl b) []; rw [List.append_nil] at h4; rw [if_pos h4.symm]
end Go.Proofs.YtdoiekknhnbepaaGreatDoor
