/- Merged (what the claim wants of): BlkParseD. -/
import Derived.Test.YtdoiekknhnbepaaGreatDoorBap12
import Derived.Test.YtdoiekknhnbepaaGreatDoorBap13
set_option linter.unusedVariables false
set_option linter.unusedSimpArgs false
set_option maxRecDepth 100000
set_option maxHeartbeats 8000000
namespace Go.Proofs.YtdoiekknhnbepaaGreatDoor
section
open Go.RowKit
open Lib renaming hid → Jh
open List renaming setIfInBounds_toArray → Ja, set_cons_zero → Jb, set_cons_succ → Jc
attribute [local go_sem ↓] Go.wp_at_zero Go.wp_at_succ
attribute [local go_sem] Later.cell
section
variable {P : Program} {Q : Exit → Act → World → Prop}
def Kjy (S : List PanicEntry → Act → World → Prop) (Q : Exit → Act → World → Prop) : Exit → Act → World → Prop
 | .panic c, a, w => S c a w
 | .normal, a, w => Q .normal a w
 | .exit i, a, w => Q (.exit i) a w
 | .goto l, a, w => Q (.goto l) a w
 | .ret, a, w => Q .ret a w
 | .outgrown, a, w => Q .outgrown a w
theorem Khv {c : Code} {a : Act} {w : World} (S : List PanicEntry → Act → World → Prop) (hS : ∀ c a w, S c a w → Q (.panic c) a w) (h : c.wp P (Kjy S Q) a w) : c.wp P Q a w :=
 Code.wp_mono (fun e a w h => by
  cases e with
  | panic c => exact hS _ _ _ h
  | normal => exact h
  | exit i => exact h
  | goto l => exact h
  | ret => exact h
  | outgrown => exact h) h
end
structure PanS (w0 : World) (q : Nat) (F0 F1 F2 : ByteArray) (D : List Deferred) (c : List PanicEntry) (a : Act) (w : World) : Prop where
 c : ∃ tt xx, c = [{ v := .iface tt xx, recovered := false }]
 n : PNq w0 q F0 F1 F2 w
 d : a.defers = D
 t2 : a.tmps.getD 2 undef = .pointer (some ⟨q + 1, 0, none⟩)
 t3 : a.tmps.getD 3 undef = .pointer (some ⟨q + 2, 0, none⟩)
theorem PanS.put {w0 : World} {q : Nat} {F0 F1 F2 : ByteArray} {D : List Deferred} {c : List PanicEntry} {a : Act} {w : World} {d : Option Tmp} {v : Value} (h2 : d ≠ some 2) (h3 : d ≠ some 3) (h : PanS w0 q F0 F1 F2 D c (a.put d v) w) : PanS w0 q F0 F1 F2 D c a w := by
 cases d with
 | none => exact h
 | some d =>
  have e : ∀ k, k ≠ d → (a.tmps.setIfInBounds d v).getD k undef = a.tmps.getD k undef := fun k hk => by
   simp only [Array.getD_eq_getD_getElem?, Array.getElem?_setIfInBounds]; rw [if_neg (Ne.symm hk)]
  refine ⟨h.c, h.n, h.d, ?_, ?_⟩
  ·have := h.t2; rwa [show (a.put (some d) v).tmps = a.tmps.setIfInBounds d v from rfl, e 2 (fun e => h2 (by rw [e]))] at this
  ·have := h.t3; rwa [show (a.put (some d) v).tmps = a.tmps.setIfInBounds d v from rfl, e 3 (fun e => h3 (by rw [e]))] at this
structure Kdi (w0 : World) (q : Nat) (F0 F1 F2 B0 B1 B2 : ByteArray) (pm b5 pc pr j : Nat) (w : World) : Prop where
 n : PNq w0 q F0 F1 F2 w
 m : Rdr pm B0 j w
 c : Rdr pc B1 0 w
 i : Rdr pr B2 0 w
 b : Blk w b5 157 #[.pointer (some ⟨pc, 0, none⟩)]
 o : q + 3 ≤ pm ∧ pm < pc ∧ pc < pr ∧ q + 3 ≤ b5
theorem Kdi.made {w0 W0 w : World} {q : Nat} {F0 F1 F2 B0 B1 B2 : ByteArray} {p0 p1 p2 b5 : Nat} (hz0 : W0.heap.size = q + 3) (hqw : w0.heap.size = q) (hn : PNq w0 q F0 F1 F2 w) (h0 : Rdr p0 B0 0 w) (h1 : Rdr p1 B1 0 w) (h2 : Rdr p2 B2 0 w) (hb : Blk w b5 157 #[.pointer none])
  (l1 : p0 < p1) (l2 : p1 < p2) (l0 : q + 3 ≤ p0) (_ : True) (l3 : W0.heap.size ≤ b5) : Kdi w0 q F0 F1 F2 B0 B1 B2 p0 b5 p1 p2 0 (w.setCell ⟨b5, 0, none⟩ (.pointer (some ⟨p1, 0, none⟩))) := by
 have n0 := hb.ne_ (show Blk w p0 _ _ from h0) (by decide); have n1 := hb.ne_ (show Blk w p1 _ _ from h1) (by decide); have n2 := hb.ne_ (show Blk w p2 _ _ from h2) (by decide); obtain ⟨x, y, z, v, hc⟩ := hn.c; refine ⟨⟨hn.f.far (p := ⟨b5, 0, none⟩) (by show q ≠ b5; omega) _, hn.e.far (p := ⟨b5, 0, none⟩) (by show q + 2 ≠ b5; omega) _, ⟨x, y, z, v, hc.far (p := ⟨b5, 0, none⟩) (by show q + 1 ≠ b5; omega) _⟩, hn.bl.setCell (p := ⟨b5, 0, none⟩) (by show q ≤ b5; omega) _⟩, Blk.far (show Blk w p0 _ _ from h0) (p := ⟨b5, 0, none⟩) (Ne.symm n0) _, Blk.far (show Blk w p1 _ _ from h1) (p := ⟨b5, 0, none⟩) (Ne.symm n1) _, Blk.far (show Blk w p2 _ _ from h2) (p := ⟨b5, 0, none⟩) (Ne.symm n2) _, hb.set_ 0 _, by omega⟩
theorem Kdi.kept {w0 w w' : World} {q : Nat} {F0 F1 F2 B0 B1 B2 : ByteArray} {pm b5 pc pr j j' : Nat} (h : Kdi w0 q F0 F1 F2 B0 B1 B2 pm b5 pc pr j w) (hk : Kept w.heap.size [pm] w w') (hr : Rdr pm B0 j' w') : Kdi w0 q F0 F1 F2 B0 B1 B2 pm b5 pc pr j' w' := by
 obtain ⟨x, y, z, v, hc⟩ := h.n.c; have ho := h.o; have hbm : b5 ≠ pm := h.b.ne_ (show Blk w pm _ _ from h.m) (by decide); refine ⟨⟨h.n.f.kept hk h.n.f.lt (by simp; omega), h.n.e.kept hk h.n.e.lt (by simp; omega), ⟨x, y, z, v, hc.kept hk hc.lt (by simp; omega)⟩, h.n.bl.trans ⟨hk.os, hk.tape, hk.output, hk.size, fun k hlt => hk.block k (by have := h.n.f.lt; omega) (by simp; omega)⟩⟩, hr, Blk.kept (show Blk w _ _ _ from h.c) hk h.c.lt (by simp; omega), Blk.kept (show Blk w _ _ _ from h.i) hk h.i.lt (by simp; omega), h.b.kept hk h.b.lt (by simpa using hbm), h.o⟩
theorem Kdi.setC {w0 w : World} {q : Nat} {F0 F1 F2 B0 B1 B2 : ByteArray} {pm b5 pc pr j i : Nat} (h : Kdi w0 q F0 F1 F2 B0 B1 B2 pm b5 pc pr j w) (u : Value) : Kdi w0 q F0 F1 F2 B0 B1 B2 pm b5 pc pr j (w.setCell ⟨q + 1, i, none⟩ u) := by
 obtain ⟨x, y, z, v, hc⟩ := h.n.c; have ho := h.o
 have hset : ∃ x y z v, Blk (w.setCell ⟨q + 1, i, none⟩ u) (q + 1) 28 #[x, y, z, v] := by
  have h1 := hc.set_ i u
  match i, h1 with
  | 0, h1 => exact ⟨_, _, _, _, h1⟩
  | 1, h1 => exact ⟨_, _, _, _, h1⟩
  | 2, h1 => exact ⟨_, _, _, _, h1⟩
  | 3, h1 => exact ⟨_, _, _, _, h1⟩
  | i + 4, h1 =>
   have e : (#[x, y, z, v] : Array Value).setIfInBounds (i + 4) u = #[x, y, z, v] := by
    rw [Array.setIfInBounds, dif_neg (by simp)]
   rw [e] at h1; exact ⟨_, _, _, _, h1⟩
 exact ⟨⟨h.n.f.far (p := ⟨q + 1, i, none⟩) (by show q ≠ q + 1; omega) u, h.n.e.far (p := ⟨q + 1, i, none⟩) (by show q + 2 ≠ q + 1; omega) u, hset, h.n.bl.setCell (p := ⟨q + 1, i, none⟩) (by show q ≤ q + 1; omega) u⟩, Blk.far (show Blk w _ _ _ from h.m) (p := ⟨q + 1, i, none⟩) (by show pm ≠ q + 1; omega) u, Blk.far (show Blk w _ _ _ from h.c) (p := ⟨q + 1, i, none⟩) (by show pc ≠ q + 1; omega) u, Blk.far (show Blk w _ _ _ from h.i) (p := ⟨q + 1, i, none⟩) (by show pr ≠ q + 1; omega) u, h.b.far (p := ⟨q + 1, i, none⟩) (by show b5 ≠ q + 1; omega) u, h.o⟩
theorem PM.sers {L : PLoc} {st : List Ser × Nat} {O : Nat → Prop} {w : World} (h : PM L st O w) {C : List UInt8} (hr : Kfg C st) (hC : C.length ≤ 268435456) (hn : st.1.length ≤ 1073741824) :
  ∃ A c, Blk w (L.q + 1) 28 #[.int .i64 (L.res : Int), .int .i64 L.frm, .int .i64 L.to_, .slice A st.1.length c] ∧ Kbu w A st.1.length st.1 := by
 obtain ⟨hs, v, h⟩ := h; obtain ⟨_, hcb, hv, hl, hp, _⟩ := h.ex; obtain ⟨A, c, rfl, hE, _, _⟩ := Elems.of_own (enc := encH3) (fun _ _ => rfl) rfl hv rfl; rw [hl] at hcb hE; refine ⟨A, c, hcb, ⟨⟨hs, hE, rfl, fun i x hx => ?_⟩, hn, fun s hs9 => ?_⟩⟩
 ·have hp9 := hp i x hx; obtain ⟨A1, c1, e1, k1, _, m1⟩ := Elems.of_own (enc := Kbf) (fun _ _ => rfl) rfl hp9.sr rfl; obtain ⟨A2, c2, e2, k2, _, m2⟩ := Elems.of_own (enc := Kaw) (fun _ _ => rfl) rfl hp9.wr rfl; have hl9 := hp9.l; have hc9 := hp9.lc; unfold spV at e1; unfold wpV at e2; obtain ⟨⟨a0, b0, d0⟩, ⟨a1, b1, d1⟩, ⟨a2, b2, d2⟩⟩ := x; dsimp only at e1 e2 hl9 hc9; injection e1 with e1 f1 g1; injection e2 with e2 f2 g2; subst e1 f1 g1 e2 f2 g2; exact ⟨hl9, hc9, k1, m1, k2, m2⟩
 ·obtain ⟨a1, a2, a3⟩ := hr.each s hs9; have b := Khb hs9; have b1 := hr.s; have b2 := hr.w; have b3 := hr.j; have a4 := a1.1; exact ⟨by omega, by omega, by omega, a2, a3, fun x hx => by have := a1.2.1 x hx; omega⟩
theorem Key {w : World} {g i : Nat} {t : TypeId} {cs : Array Value} {u : Value} (h : Blk w g t cs) (hu : cs[i]? = some u) : w.setCell ⟨g, i, none⟩ u = w := by
 have hx : (w.setCell ⟨g, i, none⟩ u).heap = w.heap := by
  apply Array.ext_getElem?; intro k
  by_cases hk : k = g
  ·subst hk; have h1 : (w.setCell ⟨k, i, none⟩ u).heap[k]? = some (.cells (cs.setIfInBounds i u) t (0, 0)) := h.set_ i u; have h2 : w.heap[k]? = some (.cells cs t (0, 0)) := h
   have h3 : cs.setIfInBounds i u = cs := by
    apply Array.ext_getElem?; intro j; rw [Array.getElem?_setIfInBounds]
    by_cases hj : i = j
    ·subst hj; rw [if_pos rfl, hu, if_pos (Array.getElem?_eq_some_iff.1 hu).1]
    ·rw [if_neg hj]
   rw [h1, h2, h3]
  ·exact Below.heap_setCell _ _ _ _ hk
 exact (congrArg (fun x => ({ w with heap := x } : World)) hx)
def Qae (w' : World) (r : Option Cont) (bl : Nat) (e : Ending) : Prop := match r with
 | some c => ∃ hd : Hd, e = .returned (.tuple #[contV c.res c.frm c.to_ hd, .int .i64 0]) ∧ Kbu w' hd.A hd.n c.series ∧ (c.series.length ≤ 268435457 ∧ smpsN c.series ≤ 32212254720 ∧ wndsN c.series ≤ 268435456)
 | none => e = .returned (.tuple #[nilC, .int .i64 (bl : Int)])
def filOf (F0 F1 F2 : ByteArray) : Fil := ⟨F0.data.toList, F1.data.toList, F2.data.toList⟩
theorem pres {w : World} {q : Nat} {x y z v u : Value} (tmps : Array Value) (h1 : Blk w (q + 1) 28 #[x, y, z, v]) (h2 : Blk w (q + 2) 29 #[u]) (hp : tmps.getD 2 undef = .pointer (some ⟨q + 1, 0, none⟩)) (hq : tmps.getD 3 undef = .pointer (some ⟨q + 2, 0, none⟩)) :
  (results Tryz.f29 tmps).run Tryz.prog w = .ok (.tuple #[.agg #[x, y, z, v], u]) w := by
 refine Khk rfl tmps w ⟨q + 1, 0, none⟩ ⟨q + 2, 0, none⟩ (.agg #[x, y, z, v]) u hp hq ?_ ?_
 ·exact run_loadVar_row w (q + 1) 28 28 _ (0, 0) _ h1 Tryz.underlying28 rfl (by kernel_rfl)
 ·have e5 : w.cell? ⟨q + 2, 0, none⟩ = some u := h2.cell 0; simp [loadVar, run_underlying Tryz.underlying29, go_sem, e5]
theorem Kdz {w0 w : World} {q : Nat} {bl : Nat} {tmps : Array Value} {r : Option Cont} (k1 : Blk w (q + 1) 28 #[.int .i64 0, .int .i64 0, .int .i64 0, .slice none 0 0]) (k2 : Blk w (q + 2) 29 #[.int .i64 (bl : Int)]) (k3 : Below q w0 w) (hr : r = none)
  (hp : tmps.getD 2 undef = .pointer (some ⟨q + 1, 0, none⟩)) (hq : tmps.getD 3 undef = .pointer (some ⟨q + 2, 0, none⟩)) (hw : w0.heap.size = q) :
  ∃ v, (results Tryz.f29 tmps).run Tryz.prog w = .ok v w ∧ (Qae w r bl (.returned v) ∧ Below w0.heap.size w0 w) := by
 subst hr; exact ⟨_, pres tmps k1 k2 hp hq, rfl, by rw [hw]; exact k3⟩
theorem Klc (F0 F1 F2 : ByteArray) (w : World) (h0 : bSz F0) (h1 : bSz F1) (h2 : bSz F2) (hN : Kbz w) (hT : DbTab w) :
  Calls Tryz.prog 29 #[.agg #[.string F0, .string F1, .string F2]] w fun e w' => Qae w' (Keq (filOf F0 F1 F2)) (Kbp [F0.data.toList, F1.data.toList, F2.data.toList]) e ∧ Below w.heap.size w w' := by
 have hmf : ∀ (fn : Fn) (first cap : Array Value) (w : World), (Instr.makeFunc fn first cap).run Tryz.prog w = .ok (.func fn first cap) w := fun _ _ _ _ => rfl
 obtain ⟨r, hr⟩ : ∃ r, Keq (filOf F0 F1 F2) = r := ⟨_, rfl⟩; obtain ⟨bl, hbl⟩ : ∃ bl, Kbp [F0.data.toList, F1.data.toList, F2.data.toList] = bl := ⟨_, rfl⟩; rw [hr]; have H0 := Jh h0; have H1 := Jh h1; have H2 := Jh h2; have HN := Jh hN; have HT := Jh hT; have HR := Jh hr; obtain ⟨q, hq⟩ : ∃ q, w.heap.size = q := ⟨_, rfl⟩; have HQ := Jh hq; clear h0 h1 h2 hN hT hr hbl; go_enter_defers Tryz.func29, Tryz.ntmps29
 go_upto_region 2 with fail
 have hb0 : Below q w (((w.alloc (.cells #[.string F0, .string F1, .string F2] 44)).alloc (.cells #[.int .i64 0, .int .i64 0, .int .i64 0, .slice none 0 0] 28)).alloc (.cells #[.int .i64 0] 29)) := (((Below.refl _ _).alloc (Nat.le_of_eq hq.symm) _).alloc (by simp; omega) _).alloc (by simp; omega) _; have hf : Blk (((w.alloc (.cells #[.string F0, .string F1, .string F2] 44)).alloc (.cells #[.int .i64 0, .int .i64 0, .int .i64 0, .slice none 0 0] 28)).alloc (.cells #[.int .i64 0] 29)) q 44 #[.string F0, .string F1, .string F2] := ((Blk.newAt hq.symm).alloc _).alloc _; have hc : Blk (((w.alloc (.cells #[.string F0, .string F1, .string F2] 44)).alloc (.cells #[.int .i64 0, .int .i64 0, .int .i64 0, .slice none 0 0] 28)).alloc (.cells #[.int .i64 0] 29)) (q + 1) 28 #[.int .i64 0, .int .i64 0, .int .i64 0, .slice none 0 0] := (Blk.newAt (by simp; omega)).alloc _; have he : Blk (((w.alloc (.cells #[.string F0, .string F1, .string F2] 44)).alloc (.cells #[.int .i64 0, .int .i64 0, .int .i64 0, .slice none 0 0] 28)).alloc (.cells #[.int .i64 0] 29)) (q + 2) 29 #[.int .i64 0] := Blk.newAt (by simp; omega); have hz0 : (((w.alloc (.cells #[.string F0, .string F1, .string F2] 44)).alloc (.cells #[.int .i64 0, .int .i64 0, .int .i64 0, .slice none 0 0] 28)).alloc (.cells #[.int .i64 0] 29)).heap.size = q + 3 := by simp; omega
 obtain ⟨W0, hW0⟩ : ∃ W0, ((w.alloc (.cells #[.string F0, .string F1, .string F2] 44)).alloc (.cells #[.int .i64 0, .int .i64 0, .int .i64 0, .slice none 0 0] 28)).alloc (.cells #[.int .i64 0] 29) = W0 := ⟨_, rfl⟩; rw [hW0] at hb0 hf hc he hz0
 try rw [hW0]
 try rw [hq]
 try rw [show q + 1 + 1 = q + 2 from rfl]
 have HF := Jh hf; have HPN := Jh (show PNq w q F0 F1 F2 W0 from ⟨hf, he, ⟨_, _, _, _, hc⟩, hb0⟩); have hnib : ∀ W, Below W0.heap.size W0 W → Kbz W := fun W hb => HN.out.below HN.out.lt ((by rw [HQ.out]; exact hb0 : Below w.heap.size w W0).trans (hb.mono (by rw [hz0, HQ.out]; omega)))
 have hz : ∀ F : ByteArray, bSz F → F.size ≤ 140737488351232 := fun F h => by unfold bSz at h; omega
 have HO0 := Jh (fun W (hb : Below W0.heap.size W0 W) => Kge F0 (hz F0 H0.out) W (hnib W hb)); have HO1 := Jh (fun W (hb : Below W0.heap.size W0 W) => Kge F1 (hz F1 H1.out) W (hnib W hb)); have HO2 := Jh (fun W (hb : Below W0.heap.size W0 W) => Kge F2 (hz F2 H2.out) W (hnib W hb)); have hbd : Below W0.heap.size W0 W0.drew := (Below.refl _ _).drew; have hS : W0.drew.cell? ⟨q, 0, none⟩ = some (.string F0) ∧ W0.drew.cell? ⟨q, 1, none⟩ = some (.string F1) ∧ W0.drew.cell? ⟨q, 2, none⟩ = some (.string F2) := ⟨hf.cell 0, hf.cell 1, hf.cell 2⟩; have hpf := @Kuy (filOf F0 F1 F2); rw [HR.out] at hpf; have hqz : q ≤ W0.heap.size := by omega
 clear hmf hc he hnib hz hW0 hf hq; obtain ⟨R0, hR0⟩ : ∃ R, Kat F0.data.toList = R := ⟨_, rfl⟩; obtain ⟨R1, hR1⟩ : ∃ R, Kat F1.data.toList = R := ⟨_, rfl⟩; obtain ⟨R2, hR2⟩ : ∃ R, Kat F2.data.toList = R := ⟨_, rfl⟩; rw [hR0] at HO0; rw [hR1] at HO1; rw [hR2] at HO2
 cases R0 with
 | error c0 =>
  have HNONE : Hid (r = none) := Jh (hpf (.inl ⟨c0, hR0⟩)); clear hpf hR0 hR1 hR2; refine Khv (PanS w q F0 F1 F2 [{ target := Target.fn (Fn.func 74) #[.pointer (some ⟨q, 0, none⟩), .pointer (some ⟨q + 1, 0, none⟩), .pointer (some ⟨q + 2, 0, none⟩)], args := #[] }]) ?_ ?_
  ·rintro c ⟨tmps, dfs⟩ we ⟨⟨tt, xx, rfl⟩, hpn, hd, ht2, ht3⟩; dsimp only at hd ht2 ht3; subst hd; go_wp2_with fail
   refine leaves_cons (f := 74) (args := #[.pointer (some ⟨q, 0, none⟩), .pointer (some ⟨q + 1, 0, none⟩), .pointer (some ⟨q + 2, 0, none⟩)]) (by simp) (by simp [go_sem]) ?_; refine (Kcl we hpn H0.out H1.out H2.out HN.out HQ.out _ _).mono ?_; rintro e u' w'' ⟨rfl, rfl, k1, k2, k3⟩; exact Kdz k1 k2 k3 HNONE.out ht2 ht3 HQ.out
  refine Kas (fun w' => w'.cell? ⟨q, 0, none⟩ = some (.string F0) ∧ w'.cell? ⟨q, 1, none⟩ = some (.string F1) ∧ w'.cell? ⟨q, 2, none⟩ = some (.string F2)) 12 13 (by kernel_rfl) rfl ?_; rw [show Array.replicate 13 false = #[false, false, false, false, false, false, false, false, false, false, false, false, false] from rfl]; refine Kaa (i := 0) (d := some 10) rfl rfl (by kernel_rfl) (by kernel_rfl) (by kernel_rfl) rfl (by first | exact fun _ _ _ h => PanS.put (by decide) (by decide) h | exact fun _ _ _ h => h) (by rfl) (fun w => by go_simp; try rfl) (fun _ => hS) ?_; simp only [Act.put, Ja, Jb, Jc]; refine Kaf (i := 1) (d := some 11) rfl rfl (by kernel_rfl) (by kernel_rfl) (by kernel_rfl) (by kernel_rfl) rfl (by first | exact fun _ _ _ h => PanS.put (by decide) (by decide) h | exact fun _ _ _ h => h) (.inl ⟨by rfl, fun w hw => by (obtain ⟨ha, hb, hc⟩ := hw; go_simp; try rfl)⟩) hS ?_; simp only [Act.put, Ja, Jb, Jc]; refine Kaa (i := 3) (d := some 13) rfl rfl (by kernel_rfl) (by kernel_rfl) (by kernel_rfl) rfl (by first | exact fun _ _ _ h => PanS.put (by decide) (by decide) h | exact fun _ _ _ h => h) (by rfl) (fun w => by go_simp; try rfl) (fun _ => hS) ?_; simp only [Act.put, Ja, Jb, Jc]; refine Kaf (i := 4) (d := some 14) rfl rfl (by kernel_rfl) (by kernel_rfl) (by kernel_rfl) (by kernel_rfl) rfl (by first | exact fun _ _ _ h => PanS.put (by decide) (by decide) h | exact fun _ _ _ h => h) (.inl ⟨by rfl, fun w hw => by (obtain ⟨ha, hb, hc⟩ := hw; go_simp; try rfl)⟩) hS ?_; simp only [Act.put, Ja, Jb, Jc]; refine Kaa (i := 6) (d := some 16) rfl rfl (by kernel_rfl) (by kernel_rfl) (by kernel_rfl) rfl (by first | exact fun _ _ _ h => PanS.put (by decide) (by decide) h | exact fun _ _ _ h => h) (by rfl) (fun w => by go_simp; try rfl) (fun _ => hS) ?_; simp only [Act.put, Ja, Jb, Jc]; refine Kaf (i := 7) (d := some 17) rfl rfl (by kernel_rfl) (by kernel_rfl) (by kernel_rfl) (by kernel_rfl) rfl (by first | exact fun _ _ _ h => PanS.put (by decide) (by decide) h | exact fun _ _ _ h => h) (.inl ⟨by rfl, fun w hw => by (obtain ⟨ha, hb, hc⟩ := hw; go_simp; try rfl)⟩) hS ?_; simp only [Act.put, Ja, Jb, Jc]; refine Kcs (i := 2) (j := 9) (by kernel_rfl) rfl rfl rfl rfl ?_ ?_
  ·refine Oper.wp_calledP (d := some 12) (w1 := W0.drew) (g := 76) (args := #[.string F0]) rfl (by go_simp; try rfl) (N := fun _ _ => False) ((HO0.out W0.drew hbd).mono ?_) (fun _ _ h => h.elim); rintro e we ⟨⟨f, hf, rfl⟩, hbe⟩; have hpn := HPN.out.below (then_ hbd hbe); refine .inr ⟨_, rfl, ?_⟩; exact ⟨⟨_, _, rfl⟩, hpn, rfl, rfl, rfl⟩
  ·refine Oper.wp_ran (d := some 5) (w' := W0.drew.alloc (.cells #[.pointer none] 157)) (v := .pointer (some ⟨W0.drew.heap.size, 0, none⟩)) rfl (by go_simp; try rfl) ?_; have hbe : Below W0.drew.heap.size W0.drew (W0.drew.alloc (.cells #[.pointer none] 157)) := (Below.refl _ _).alloc (Nat.le_refl _) _; have hbx : Blk (W0.drew.alloc (.cells #[.pointer none] 157)) W0.drew.heap.size 157 #[.pointer none] := Blk.new _ _ _; obtain ⟨b5, hb5e⟩ : ∃ b, W0.drew.heap.size = b := ⟨_, rfl⟩; have hb5q : W0.heap.size ≤ b5 := by rw [← hb5e]; exact hbd.size
   obtain ⟨w1, hwe⟩ : ∃ x, W0.drew.alloc (.cells #[.pointer none] 157) = x := ⟨_, rfl⟩; rw [hwe] at hbe hbx
   try rw [hwe]
   rw [hb5e] at hbx
   try rw [hb5e]
   have hb1 : Below W0.heap.size W0 w1 := then_ hbd hbe; have hk := HF.out.below hb1 HF.out.lt; have hS : w1.cell? ⟨q, 0, none⟩ = some (.string F0) ∧ w1.cell? ⟨q, 1, none⟩ = some (.string F1) ∧ w1.cell? ⟨q, 2, none⟩ = some (.string F2) := ⟨hk.cell 0, hk.cell 1, hk.cell 2⟩; refine ⟨fun _ => hS, ?_⟩; simp only [Act.put, Ja, Jb, Jc]; refine Kac (i := 2) (by kernel_rfl) rfl rfl ?_; refine Oper.wp_calledP (d := some 12) (w1 := w1) (g := 76) (args := #[.string F0]) rfl (by go_simp; try rfl) (N := fun _ _ => False) ((HO0.out w1 hb1).mono ?_) (fun _ _ h => h.elim); rintro e we ⟨⟨f, hf, rfl⟩, hbe⟩; have hpn := HPN.out.below (then_ hb1 hbe); refine .inr ⟨_, rfl, ?_⟩; exact ⟨⟨_, _, rfl⟩, hpn, rfl, rfl, rfl⟩
 | ok bb0 =>
 obtain ⟨B0, hB0⟩ : ∃ B : ByteArray, (⟨bb0.toArray⟩ : ByteArray) = B := ⟨_, rfl⟩; unfold OpenO at HO0; dsimp only at HO0; rw [hB0] at HO0
 cases R1 with
 | error c1 =>
  have HNONE : Hid (r = none) := Jh (hpf (.inr (.inl ⟨c1, hR1⟩))); clear hpf hR0 hR1 hR2 hB0; refine Khv (PanS w q F0 F1 F2 [{ target := Target.fn (Fn.func 74) #[.pointer (some ⟨q, 0, none⟩), .pointer (some ⟨q + 1, 0, none⟩), .pointer (some ⟨q + 2, 0, none⟩)], args := #[] }]) ?_ ?_
  ·rintro c ⟨tmps, dfs⟩ we ⟨⟨tt, xx, rfl⟩, hpn, hd, ht2, ht3⟩; dsimp only at hd ht2 ht3; subst hd; go_wp2_with fail
   refine leaves_cons (f := 74) (args := #[.pointer (some ⟨q, 0, none⟩), .pointer (some ⟨q + 1, 0, none⟩), .pointer (some ⟨q + 2, 0, none⟩)]) (by simp) (by simp [go_sem]) ?_; refine (Kcl we hpn H0.out H1.out H2.out HN.out HQ.out _ _).mono ?_; rintro e u' w'' ⟨rfl, rfl, k1, k2, k3⟩; exact Kdz k1 k2 k3 HNONE.out ht2 ht3 HQ.out
  refine Kas (fun w' => w'.cell? ⟨q, 0, none⟩ = some (.string F0) ∧ w'.cell? ⟨q, 1, none⟩ = some (.string F1) ∧ w'.cell? ⟨q, 2, none⟩ = some (.string F2)) 12 13 (by kernel_rfl) rfl ?_; rw [show Array.replicate 13 false = #[false, false, false, false, false, false, false, false, false, false, false, false, false] from rfl]; refine Kaa (i := 0) (d := some 10) rfl rfl (by kernel_rfl) (by kernel_rfl) (by kernel_rfl) rfl (by first | exact fun _ _ _ h => PanS.put (by decide) (by decide) h | exact fun _ _ _ h => h) (by rfl) (fun w => by go_simp; try rfl) (fun _ => hS) ?_; simp only [Act.put, Ja, Jb, Jc]; refine Kaf (i := 1) (d := some 11) rfl rfl (by kernel_rfl) (by kernel_rfl) (by kernel_rfl) (by kernel_rfl) rfl (by first | exact fun _ _ _ h => PanS.put (by decide) (by decide) h | exact fun _ _ _ h => h) (.inl ⟨by rfl, fun w hw => by (obtain ⟨ha, hb, hc⟩ := hw; go_simp; try rfl)⟩) hS ?_; simp only [Act.put, Ja, Jb, Jc]; refine Kaa (i := 3) (d := some 13) rfl rfl (by kernel_rfl) (by kernel_rfl) (by kernel_rfl) rfl (by first | exact fun _ _ _ h => PanS.put (by decide) (by decide) h | exact fun _ _ _ h => h) (by rfl) (fun w => by go_simp; try rfl) (fun _ => hS) ?_; simp only [Act.put, Ja, Jb, Jc]; refine Kaf (i := 4) (d := some 14) rfl rfl (by kernel_rfl) (by kernel_rfl) (by kernel_rfl) (by kernel_rfl) rfl (by first | exact fun _ _ _ h => PanS.put (by decide) (by decide) h | exact fun _ _ _ h => h) (.inl ⟨by rfl, fun w hw => by (obtain ⟨ha, hb, hc⟩ := hw; go_simp; try rfl)⟩) hS ?_; simp only [Act.put, Ja, Jb, Jc]; refine Kaa (i := 6) (d := some 16) rfl rfl (by kernel_rfl) (by kernel_rfl) (by kernel_rfl) rfl (by first | exact fun _ _ _ h => PanS.put (by decide) (by decide) h | exact fun _ _ _ h => h) (by rfl) (fun w => by go_simp; try rfl) (fun _ => hS) ?_; simp only [Act.put, Ja, Jb, Jc]; refine Kaf (i := 7) (d := some 17) rfl rfl (by kernel_rfl) (by kernel_rfl) (by kernel_rfl) (by kernel_rfl) rfl (by first | exact fun _ _ _ h => PanS.put (by decide) (by decide) h | exact fun _ _ _ h => h) (.inl ⟨by rfl, fun w hw => by (obtain ⟨ha, hb, hc⟩ := hw; go_simp; try rfl)⟩) hS ?_; simp only [Act.put, Ja, Jb, Jc]; refine Kcs (i := 2) (j := 9) (by kernel_rfl) rfl rfl rfl rfl ?_ ?_
  ·refine Oper.wp_calledP (d := some 12) (w1 := W0.drew) (g := 76) (args := #[.string F0]) rfl (by go_simp; try rfl) (N := fun u w' => ∃ p, u = .pointer (some ⟨p, 0, none⟩) ∧ W0.drew.heap.size ≤ p ∧ Rdr p B0 0 w' ∧ Below W0.drew.heap.size W0.drew w') ((HO0.out W0.drew hbd).mono ?_) ?_
   ·rintro e we ⟨p, rfl, k1, k2, k3⟩; exact .inl ⟨_, rfl, p, rfl, k1, k2, k3⟩
   rintro u w1 ⟨p0, rfl, hp0, hr0, hbe⟩; have hlt0 : W0.heap.size ≤ p0 := by have := hbd.size; omega
   have hb1 : Below W0.heap.size W0 w1 := then_ hbd hbe; have hk := HF.out.below hb1 HF.out.lt; have hS : w1.cell? ⟨q, 0, none⟩ = some (.string F0) ∧ w1.cell? ⟨q, 1, none⟩ = some (.string F1) ∧ w1.cell? ⟨q, 2, none⟩ = some (.string F2) := ⟨hk.cell 0, hk.cell 1, hk.cell 2⟩; refine ⟨fun _ => hS, ?_⟩; simp only [Act.put, Ja, Jb, Jc]; refine Kcs (i := 5) (j := 9) (by kernel_rfl) rfl rfl rfl rfl ?_ ?_
   ·refine Oper.wp_calledP (d := some 15) (w1 := w1) (g := 76) (args := #[.string F1]) rfl (by go_simp; try rfl) (N := fun _ _ => False) ((HO1.out w1 hb1).mono ?_) (fun _ _ h => h.elim); rintro e we ⟨⟨f, hf, rfl⟩, hbe⟩; have hpn := HPN.out.below (then_ hb1 hbe); refine .inr ⟨_, rfl, ?_⟩; exact ⟨⟨_, _, rfl⟩, hpn, rfl, rfl, rfl⟩
   ·refine Oper.wp_ran (d := some 5) (w' := w1.alloc (.cells #[.pointer none] 157)) (v := .pointer (some ⟨w1.heap.size, 0, none⟩)) rfl (by go_simp; try rfl) ?_; have hbe : Below w1.heap.size w1 (w1.alloc (.cells #[.pointer none] 157)) := (Below.refl _ _).alloc (Nat.le_refl _) _; have hbx : Blk (w1.alloc (.cells #[.pointer none] 157)) w1.heap.size 157 #[.pointer none] := Blk.new _ _ _; obtain ⟨b5, hb5e⟩ : ∃ b, w1.heap.size = b := ⟨_, rfl⟩; have hb5q : W0.heap.size ≤ b5 := by rw [← hb5e]; exact hb1.size
    obtain ⟨w2, hwe⟩ : ∃ x, w1.alloc (.cells #[.pointer none] 157) = x := ⟨_, rfl⟩; rw [hwe] at hbe hbx
    try rw [hwe]
    rw [hb5e] at hbx
    try rw [hb5e]
    have hr0 := hr0.below hbe; have hb2 : Below W0.heap.size W0 w2 := then_ hb1 hbe; have hk := HF.out.below hb2 HF.out.lt; have hS : w2.cell? ⟨q, 0, none⟩ = some (.string F0) ∧ w2.cell? ⟨q, 1, none⟩ = some (.string F1) ∧ w2.cell? ⟨q, 2, none⟩ = some (.string F2) := ⟨hk.cell 0, hk.cell 1, hk.cell 2⟩; refine ⟨fun _ => hS, ?_⟩; simp only [Act.put, Ja, Jb, Jc]; refine Kac (i := 5) (by kernel_rfl) rfl rfl ?_; refine Oper.wp_calledP (d := some 15) (w1 := w2) (g := 76) (args := #[.string F1]) rfl (by go_simp; try rfl) (N := fun _ _ => False) ((HO1.out w2 hb2).mono ?_) (fun _ _ h => h.elim); rintro e we ⟨⟨f, hf, rfl⟩, hbe⟩; have hpn := HPN.out.below (then_ hb2 hbe); refine .inr ⟨_, rfl, ?_⟩; exact ⟨⟨_, _, rfl⟩, hpn, rfl, rfl, rfl⟩
  ·refine Oper.wp_ran (d := some 5) (w' := W0.drew.alloc (.cells #[.pointer none] 157)) (v := .pointer (some ⟨W0.drew.heap.size, 0, none⟩)) rfl (by go_simp; try rfl) ?_; have hbe : Below W0.drew.heap.size W0.drew (W0.drew.alloc (.cells #[.pointer none] 157)) := (Below.refl _ _).alloc (Nat.le_refl _) _; have hbx : Blk (W0.drew.alloc (.cells #[.pointer none] 157)) W0.drew.heap.size 157 #[.pointer none] := Blk.new _ _ _; obtain ⟨b5, hb5e⟩ : ∃ b, W0.drew.heap.size = b := ⟨_, rfl⟩; have hb5q : W0.heap.size ≤ b5 := by rw [← hb5e]; exact hbd.size
   obtain ⟨w1, hwe⟩ : ∃ x, W0.drew.alloc (.cells #[.pointer none] 157) = x := ⟨_, rfl⟩; rw [hwe] at hbe hbx
   try rw [hwe]
   rw [hb5e] at hbx
   try rw [hb5e]
   have hb1 : Below W0.heap.size W0 w1 := then_ hbd hbe; have hk := HF.out.below hb1 HF.out.lt; have hS : w1.cell? ⟨q, 0, none⟩ = some (.string F0) ∧ w1.cell? ⟨q, 1, none⟩ = some (.string F1) ∧ w1.cell? ⟨q, 2, none⟩ = some (.string F2) := ⟨hk.cell 0, hk.cell 1, hk.cell 2⟩; refine ⟨fun _ => hS, ?_⟩; simp only [Act.put, Ja, Jb, Jc]; refine Kac (i := 2) (by kernel_rfl) rfl rfl ?_; refine Oper.wp_calledP (d := some 12) (w1 := w1) (g := 76) (args := #[.string F0]) rfl (by go_simp; try rfl) (N := fun u w' => ∃ p, u = .pointer (some ⟨p, 0, none⟩) ∧ w1.heap.size ≤ p ∧ Rdr p B0 0 w' ∧ Below w1.heap.size w1 w') ((HO0.out w1 hb1).mono ?_) ?_
   ·rintro e we ⟨p, rfl, k1, k2, k3⟩; exact .inl ⟨_, rfl, p, rfl, k1, k2, k3⟩
   rintro u w2 ⟨p0, rfl, hp0, hr0, hbe⟩; have hlt0 : W0.heap.size ≤ p0 := by have := hb1.size; omega
   have hbx := hbx.below hbe hbx.lt; have hb2 : Below W0.heap.size W0 w2 := then_ hb1 hbe; have hk := HF.out.below hb2 HF.out.lt; have hS : w2.cell? ⟨q, 0, none⟩ = some (.string F0) ∧ w2.cell? ⟨q, 1, none⟩ = some (.string F1) ∧ w2.cell? ⟨q, 2, none⟩ = some (.string F2) := ⟨hk.cell 0, hk.cell 1, hk.cell 2⟩; refine ⟨fun _ => hS, ?_⟩; simp only [Act.put, Ja, Jb, Jc]; refine Kac (i := 5) (by kernel_rfl) rfl rfl ?_; refine Oper.wp_calledP (d := some 15) (w1 := w2) (g := 76) (args := #[.string F1]) rfl (by go_simp; try rfl) (N := fun _ _ => False) ((HO1.out w2 hb2).mono ?_) (fun _ _ h => h.elim); rintro e we ⟨⟨f, hf, rfl⟩, hbe⟩; have hpn := HPN.out.below (then_ hb2 hbe); refine .inr ⟨_, rfl, ?_⟩; exact ⟨⟨_, _, rfl⟩, hpn, rfl, rfl, rfl⟩
 | ok bb1 =>
 obtain ⟨B1, hB1⟩ : ∃ B : ByteArray, (⟨bb1.toArray⟩ : ByteArray) = B := ⟨_, rfl⟩; unfold OpenO at HO1; dsimp only at HO1; rw [hB1] at HO1
 cases R2 with
 | error c2 =>
  have HNONE : Hid (r = none) := Jh (hpf (.inr (.inr ⟨c2, hR2⟩))); clear hpf hR0 hR1 hR2 hB0 hB1; refine Khv (PanS w q F0 F1 F2 [{ target := Target.fn (Fn.func 74) #[.pointer (some ⟨q, 0, none⟩), .pointer (some ⟨q + 1, 0, none⟩), .pointer (some ⟨q + 2, 0, none⟩)], args := #[] }]) ?_ ?_
  ·rintro c ⟨tmps, dfs⟩ we ⟨⟨tt, xx, rfl⟩, hpn, hd, ht2, ht3⟩; dsimp only at hd ht2 ht3; subst hd; go_wp2_with fail
   refine leaves_cons (f := 74) (args := #[.pointer (some ⟨q, 0, none⟩), .pointer (some ⟨q + 1, 0, none⟩), .pointer (some ⟨q + 2, 0, none⟩)]) (by simp) (by simp [go_sem]) ?_; refine (Kcl we hpn H0.out H1.out H2.out HN.out HQ.out _ _).mono ?_; rintro e u' w'' ⟨rfl, rfl, k1, k2, k3⟩; exact Kdz k1 k2 k3 HNONE.out ht2 ht3 HQ.out
  refine Kas (fun w' => w'.cell? ⟨q, 0, none⟩ = some (.string F0) ∧ w'.cell? ⟨q, 1, none⟩ = some (.string F1) ∧ w'.cell? ⟨q, 2, none⟩ = some (.string F2)) 12 13 (by kernel_rfl) rfl ?_; rw [show Array.replicate 13 false = #[false, false, false, false, false, false, false, false, false, false, false, false, false] from rfl]; refine Kaa (i := 0) (d := some 10) rfl rfl (by kernel_rfl) (by kernel_rfl) (by kernel_rfl) rfl (by first | exact fun _ _ _ h => PanS.put (by decide) (by decide) h | exact fun _ _ _ h => h) (by rfl) (fun w => by go_simp; try rfl) (fun _ => hS) ?_; simp only [Act.put, Ja, Jb, Jc]; refine Kaf (i := 1) (d := some 11) rfl rfl (by kernel_rfl) (by kernel_rfl) (by kernel_rfl) (by kernel_rfl) rfl (by first | exact fun _ _ _ h => PanS.put (by decide) (by decide) h | exact fun _ _ _ h => h) (.inl ⟨by rfl, fun w hw => by (obtain ⟨ha, hb, hc⟩ := hw; go_simp; try rfl)⟩) hS ?_; simp only [Act.put, Ja, Jb, Jc]; refine Kaa (i := 3) (d := some 13) rfl rfl (by kernel_rfl) (by kernel_rfl) (by kernel_rfl) rfl (by first | exact fun _ _ _ h => PanS.put (by decide) (by decide) h | exact fun _ _ _ h => h) (by rfl) (fun w => by go_simp; try rfl) (fun _ => hS) ?_; simp only [Act.put, Ja, Jb, Jc]; refine Kaf (i := 4) (d := some 14) rfl rfl (by kernel_rfl) (by kernel_rfl) (by kernel_rfl) (by kernel_rfl) rfl (by first | exact fun _ _ _ h => PanS.put (by decide) (by decide) h | exact fun _ _ _ h => h) (.inl ⟨by rfl, fun w hw => by (obtain ⟨ha, hb, hc⟩ := hw; go_simp; try rfl)⟩) hS ?_; simp only [Act.put, Ja, Jb, Jc]; refine Kaa (i := 6) (d := some 16) rfl rfl (by kernel_rfl) (by kernel_rfl) (by kernel_rfl) rfl (by first | exact fun _ _ _ h => PanS.put (by decide) (by decide) h | exact fun _ _ _ h => h) (by rfl) (fun w => by go_simp; try rfl) (fun _ => hS) ?_; simp only [Act.put, Ja, Jb, Jc]; refine Kaf (i := 7) (d := some 17) rfl rfl (by kernel_rfl) (by kernel_rfl) (by kernel_rfl) (by kernel_rfl) rfl (by first | exact fun _ _ _ h => PanS.put (by decide) (by decide) h | exact fun _ _ _ h => h) (.inl ⟨by rfl, fun w hw => by (obtain ⟨ha, hb, hc⟩ := hw; go_simp; try rfl)⟩) hS ?_; simp only [Act.put, Ja, Jb, Jc]; refine Kcs (i := 2) (j := 9) (by kernel_rfl) rfl rfl rfl rfl ?_ ?_
  ·refine Oper.wp_calledP (d := some 12) (w1 := W0.drew) (g := 76) (args := #[.string F0]) rfl (by go_simp; try rfl) (N := fun u w' => ∃ p, u = .pointer (some ⟨p, 0, none⟩) ∧ W0.drew.heap.size ≤ p ∧ Rdr p B0 0 w' ∧ Below W0.drew.heap.size W0.drew w') ((HO0.out W0.drew hbd).mono ?_) ?_
   ·rintro e we ⟨p, rfl, k1, k2, k3⟩; exact .inl ⟨_, rfl, p, rfl, k1, k2, k3⟩
   rintro u w1 ⟨p0, rfl, hp0, hr0, hbe⟩; have hlt0 : W0.heap.size ≤ p0 := by have := hbd.size; omega
   have hb1 : Below W0.heap.size W0 w1 := then_ hbd hbe; have hk := HF.out.below hb1 HF.out.lt; have hS : w1.cell? ⟨q, 0, none⟩ = some (.string F0) ∧ w1.cell? ⟨q, 1, none⟩ = some (.string F1) ∧ w1.cell? ⟨q, 2, none⟩ = some (.string F2) := ⟨hk.cell 0, hk.cell 1, hk.cell 2⟩; refine ⟨fun _ => hS, ?_⟩; simp only [Act.put, Ja, Jb, Jc]; refine Kcs (i := 5) (j := 9) (by kernel_rfl) rfl rfl rfl rfl ?_ ?_
   ·refine Oper.wp_calledP (d := some 15) (w1 := w1) (g := 76) (args := #[.string F1]) rfl (by go_simp; try rfl) (N := fun u w' => ∃ p, u = .pointer (some ⟨p, 0, none⟩) ∧ w1.heap.size ≤ p ∧ Rdr p B1 0 w' ∧ Below w1.heap.size w1 w') ((HO1.out w1 hb1).mono ?_) ?_
    ·rintro e we ⟨p, rfl, k1, k2, k3⟩; exact .inl ⟨_, rfl, p, rfl, k1, k2, k3⟩
    rintro u w2 ⟨p1, rfl, hp1, hr1, hbe⟩; have hlt1 : p0 < p1 := by have := hr0.lt; omega
    have hr0 := hr0.below hbe; have hb2 : Below W0.heap.size W0 w2 := then_ hb1 hbe; have hk := HF.out.below hb2 HF.out.lt; have hS : w2.cell? ⟨q, 0, none⟩ = some (.string F0) ∧ w2.cell? ⟨q, 1, none⟩ = some (.string F1) ∧ w2.cell? ⟨q, 2, none⟩ = some (.string F2) := ⟨hk.cell 0, hk.cell 1, hk.cell 2⟩; refine ⟨fun _ => hS, ?_⟩; simp only [Act.put, Ja, Jb, Jc]; refine Kcs (i := 8) (j := 9) (by kernel_rfl) rfl rfl rfl rfl ?_ ?_
    ·refine Oper.wp_calledP (d := some 18) (w1 := w2) (g := 76) (args := #[.string F2]) rfl (by go_simp; try rfl) (N := fun _ _ => False) ((HO2.out w2 hb2).mono ?_) (fun _ _ h => h.elim); rintro e we ⟨⟨f, hf, rfl⟩, hbe⟩; have hpn := HPN.out.below (then_ hb2 hbe); refine .inr ⟨_, rfl, ?_⟩; exact ⟨⟨_, _, rfl⟩, hpn, rfl, rfl, rfl⟩
    ·refine Oper.wp_ran (d := some 5) (w' := w2.alloc (.cells #[.pointer none] 157)) (v := .pointer (some ⟨w2.heap.size, 0, none⟩)) rfl (by go_simp; try rfl) ?_; have hbe : Below w2.heap.size w2 (w2.alloc (.cells #[.pointer none] 157)) := (Below.refl _ _).alloc (Nat.le_refl _) _; have hbx : Blk (w2.alloc (.cells #[.pointer none] 157)) w2.heap.size 157 #[.pointer none] := Blk.new _ _ _; obtain ⟨b5, hb5e⟩ : ∃ b, w2.heap.size = b := ⟨_, rfl⟩; have hb5q : W0.heap.size ≤ b5 := by rw [← hb5e]; exact hb2.size
     obtain ⟨w3, hwe⟩ : ∃ x, w2.alloc (.cells #[.pointer none] 157) = x := ⟨_, rfl⟩; rw [hwe] at hbe hbx
     try rw [hwe]
     rw [hb5e] at hbx
     try rw [hb5e]
     have hr0 := hr0.below hbe; have hr1 := hr1.below hbe; have hb3 : Below W0.heap.size W0 w3 := then_ hb2 hbe; have hk := HF.out.below hb3 HF.out.lt; have hS : w3.cell? ⟨q, 0, none⟩ = some (.string F0) ∧ w3.cell? ⟨q, 1, none⟩ = some (.string F1) ∧ w3.cell? ⟨q, 2, none⟩ = some (.string F2) := ⟨hk.cell 0, hk.cell 1, hk.cell 2⟩; refine ⟨fun _ => hS, ?_⟩; simp only [Act.put, Ja, Jb, Jc]; refine Kac (i := 8) (by kernel_rfl) rfl rfl ?_; refine Oper.wp_calledP (d := some 18) (w1 := w3) (g := 76) (args := #[.string F2]) rfl (by go_simp; try rfl) (N := fun _ _ => False) ((HO2.out w3 hb3).mono ?_) (fun _ _ h => h.elim); rintro e we ⟨⟨f, hf, rfl⟩, hbe⟩; have hpn := HPN.out.below (then_ hb3 hbe); refine .inr ⟨_, rfl, ?_⟩; exact ⟨⟨_, _, rfl⟩, hpn, rfl, rfl, rfl⟩
   ·refine Oper.wp_ran (d := some 5) (w' := w1.alloc (.cells #[.pointer none] 157)) (v := .pointer (some ⟨w1.heap.size, 0, none⟩)) rfl (by go_simp; try rfl) ?_; have hbe : Below w1.heap.size w1 (w1.alloc (.cells #[.pointer none] 157)) := (Below.refl _ _).alloc (Nat.le_refl _) _; have hbx : Blk (w1.alloc (.cells #[.pointer none] 157)) w1.heap.size 157 #[.pointer none] := Blk.new _ _ _; obtain ⟨b5, hb5e⟩ : ∃ b, w1.heap.size = b := ⟨_, rfl⟩; have hb5q : W0.heap.size ≤ b5 := by rw [← hb5e]; exact hb1.size
    obtain ⟨w2, hwe⟩ : ∃ x, w1.alloc (.cells #[.pointer none] 157) = x := ⟨_, rfl⟩; rw [hwe] at hbe hbx
    try rw [hwe]
    rw [hb5e] at hbx
    try rw [hb5e]
    have hr0 := hr0.below hbe; have hb2 : Below W0.heap.size W0 w2 := then_ hb1 hbe; have hk := HF.out.below hb2 HF.out.lt; have hS : w2.cell? ⟨q, 0, none⟩ = some (.string F0) ∧ w2.cell? ⟨q, 1, none⟩ = some (.string F1) ∧ w2.cell? ⟨q, 2, none⟩ = some (.string F2) := ⟨hk.cell 0, hk.cell 1, hk.cell 2⟩; refine ⟨fun _ => hS, ?_⟩; simp only [Act.put, Ja, Jb, Jc]; refine Kac (i := 5) (by kernel_rfl) rfl rfl ?_; refine Oper.wp_calledP (d := some 15) (w1 := w2) (g := 76) (args := #[.string F1]) rfl (by go_simp; try rfl) (N := fun u w' => ∃ p, u = .pointer (some ⟨p, 0, none⟩) ∧ w2.heap.size ≤ p ∧ Rdr p B1 0 w' ∧ Below w2.heap.size w2 w') ((HO1.out w2 hb2).mono ?_) ?_
    ·rintro e we ⟨p, rfl, k1, k2, k3⟩; exact .inl ⟨_, rfl, p, rfl, k1, k2, k3⟩
    rintro u w3 ⟨p1, rfl, hp1, hr1, hbe⟩; have hlt1 : p0 < p1 := by have := hr0.lt; omega
    have hr0 := hr0.below hbe; have hbx := hbx.below hbe hbx.lt; have hb3 : Below W0.heap.size W0 w3 := then_ hb2 hbe; have hk := HF.out.below hb3 HF.out.lt; have hS : w3.cell? ⟨q, 0, none⟩ = some (.string F0) ∧ w3.cell? ⟨q, 1, none⟩ = some (.string F1) ∧ w3.cell? ⟨q, 2, none⟩ = some (.string F2) := ⟨hk.cell 0, hk.cell 1, hk.cell 2⟩; refine ⟨fun _ => hS, ?_⟩; simp only [Act.put, Ja, Jb, Jc]; refine Kac (i := 8) (by kernel_rfl) rfl rfl ?_; refine Oper.wp_calledP (d := some 18) (w1 := w3) (g := 76) (args := #[.string F2]) rfl (by go_simp; try rfl) (N := fun _ _ => False) ((HO2.out w3 hb3).mono ?_) (fun _ _ h => h.elim); rintro e we ⟨⟨f, hf, rfl⟩, hbe⟩; have hpn := HPN.out.below (then_ hb3 hbe); refine .inr ⟨_, rfl, ?_⟩; exact ⟨⟨_, _, rfl⟩, hpn, rfl, rfl, rfl⟩
  ·refine Oper.wp_ran (d := some 5) (w' := W0.drew.alloc (.cells #[.pointer none] 157)) (v := .pointer (some ⟨W0.drew.heap.size, 0, none⟩)) rfl (by go_simp; try rfl) ?_; have hbe : Below W0.drew.heap.size W0.drew (W0.drew.alloc (.cells #[.pointer none] 157)) := (Below.refl _ _).alloc (Nat.le_refl _) _; have hbx : Blk (W0.drew.alloc (.cells #[.pointer none] 157)) W0.drew.heap.size 157 #[.pointer none] := Blk.new _ _ _; obtain ⟨b5, hb5e⟩ : ∃ b, W0.drew.heap.size = b := ⟨_, rfl⟩; have hb5q : W0.heap.size ≤ b5 := by rw [← hb5e]; exact hbd.size
   obtain ⟨w1, hwe⟩ : ∃ x, W0.drew.alloc (.cells #[.pointer none] 157) = x := ⟨_, rfl⟩; rw [hwe] at hbe hbx
   try rw [hwe]
   rw [hb5e] at hbx
   try rw [hb5e]
   have hb1 : Below W0.heap.size W0 w1 := then_ hbd hbe; have hk := HF.out.below hb1 HF.out.lt; have hS : w1.cell? ⟨q, 0, none⟩ = some (.string F0) ∧ w1.cell? ⟨q, 1, none⟩ = some (.string F1) ∧ w1.cell? ⟨q, 2, none⟩ = some (.string F2) := ⟨hk.cell 0, hk.cell 1, hk.cell 2⟩; refine ⟨fun _ => hS, ?_⟩; simp only [Act.put, Ja, Jb, Jc]; refine Kac (i := 2) (by kernel_rfl) rfl rfl ?_; refine Oper.wp_calledP (d := some 12) (w1 := w1) (g := 76) (args := #[.string F0]) rfl (by go_simp; try rfl) (N := fun u w' => ∃ p, u = .pointer (some ⟨p, 0, none⟩) ∧ w1.heap.size ≤ p ∧ Rdr p B0 0 w' ∧ Below w1.heap.size w1 w') ((HO0.out w1 hb1).mono ?_) ?_
   ·rintro e we ⟨p, rfl, k1, k2, k3⟩; exact .inl ⟨_, rfl, p, rfl, k1, k2, k3⟩
   rintro u w2 ⟨p0, rfl, hp0, hr0, hbe⟩; have hlt0 : W0.heap.size ≤ p0 := by have := hb1.size; omega
   have hbx := hbx.below hbe hbx.lt; have hb2 : Below W0.heap.size W0 w2 := then_ hb1 hbe; have hk := HF.out.below hb2 HF.out.lt; have hS : w2.cell? ⟨q, 0, none⟩ = some (.string F0) ∧ w2.cell? ⟨q, 1, none⟩ = some (.string F1) ∧ w2.cell? ⟨q, 2, none⟩ = some (.string F2) := ⟨hk.cell 0, hk.cell 1, hk.cell 2⟩; refine ⟨fun _ => hS, ?_⟩; simp only [Act.put, Ja, Jb, Jc]; refine Kac (i := 5) (by kernel_rfl) rfl rfl ?_; refine Oper.wp_calledP (d := some 15) (w1 := w2) (g := 76) (args := #[.string F1]) rfl (by go_simp; try rfl) (N := fun u w' => ∃ p, u = .pointer (some ⟨p, 0, none⟩) ∧ w2.heap.size ≤ p ∧ Rdr p B1 0 w' ∧ Below w2.heap.size w2 w') ((HO1.out w2 hb2).mono ?_) ?_
   ·rintro e we ⟨p, rfl, k1, k2, k3⟩; exact .inl ⟨_, rfl, p, rfl, k1, k2, k3⟩
   rintro u w3 ⟨p1, rfl, hp1, hr1, hbe⟩; have hlt1 : p0 < p1 := by have := hr0.lt; omega
   have hr0 := hr0.below hbe; have hbx := hbx.below hbe hbx.lt; have hb3 : Below W0.heap.size W0 w3 := then_ hb2 hbe; have hk := HF.out.below hb3 HF.out.lt; have hS : w3.cell? ⟨q, 0, none⟩ = some (.string F0) ∧ w3.cell? ⟨q, 1, none⟩ = some (.string F1) ∧ w3.cell? ⟨q, 2, none⟩ = some (.string F2) := ⟨hk.cell 0, hk.cell 1, hk.cell 2⟩; refine ⟨fun _ => hS, ?_⟩; simp only [Act.put, Ja, Jb, Jc]; refine Kac (i := 8) (by kernel_rfl) rfl rfl ?_; refine Oper.wp_calledP (d := some 18) (w1 := w3) (g := 76) (args := #[.string F2]) rfl (by go_simp; try rfl) (N := fun _ _ => False) ((HO2.out w3 hb3).mono ?_) (fun _ _ h => h.elim); rintro e we ⟨⟨f, hf, rfl⟩, hbe⟩; have hpn := HPN.out.below (then_ hb3 hbe); refine .inr ⟨_, rfl, ?_⟩; exact ⟨⟨_, _, rfl⟩, hpn, rfl, rfl, rfl⟩
 | ok bb2 =>
 obtain ⟨B2, hB2⟩ : ∃ B : ByteArray, (⟨bb2.toArray⟩ : ByteArray) = B := ⟨_, rfl⟩; unfold OpenO at HO2; dsimp only at HO2; rw [hB2] at HO2; have HR0 := Jh hR0; have HR1 := Jh hR1; have HR2 := Jh hR2; have HBB0 := Jh hB0; have HBB1 := Jh hB1; have HBB2 := Jh hB2; clear hpf hR0 hR1 hR2 hB0 hB1 hB2; go_cut [4, 5, 6] from 10 to 18 (fun s4 s5 s6 wz => ∃ pm b5 pc pr, s4 = .pointer (some ⟨pm, 0, none⟩) ∧ s5 = .pointer (some ⟨b5, 0, none⟩) ∧ s6 = .pointer (some ⟨pr, 0, none⟩) ∧ Kdi w q F0 F1 F2 B0 B1 B2 pm b5 pc pr 0 wz)
 case first =>
  refine Khv (fun _ _ _ => False) (fun _ _ _ h => h.elim) ?_; refine Kas (fun w' => w'.cell? ⟨q, 0, none⟩ = some (.string F0) ∧ w'.cell? ⟨q, 1, none⟩ = some (.string F1) ∧ w'.cell? ⟨q, 2, none⟩ = some (.string F2)) 12 13 (by kernel_rfl) rfl ?_; rw [show Array.replicate 13 false = #[false, false, false, false, false, false, false, false, false, false, false, false, false] from rfl]; refine Kaa (i := 0) (d := some 10) rfl rfl (by kernel_rfl) (by kernel_rfl) (by kernel_rfl) rfl (by first | exact fun _ _ _ h => PanS.put (by decide) (by decide) h | exact fun _ _ _ h => h) (by rfl) (fun w => by go_simp; try rfl) (fun _ => hS) ?_; simp only [Act.put, Ja, Jb, Jc]; refine Kaf (i := 1) (d := some 11) rfl rfl (by kernel_rfl) (by kernel_rfl) (by kernel_rfl) (by kernel_rfl) rfl (by first | exact fun _ _ _ h => PanS.put (by decide) (by decide) h | exact fun _ _ _ h => h) (.inl ⟨by rfl, fun w hw => by (obtain ⟨ha, hb, hc⟩ := hw; go_simp; try rfl)⟩) hS ?_; simp only [Act.put, Ja, Jb, Jc]; refine Kaa (i := 3) (d := some 13) rfl rfl (by kernel_rfl) (by kernel_rfl) (by kernel_rfl) rfl (by first | exact fun _ _ _ h => PanS.put (by decide) (by decide) h | exact fun _ _ _ h => h) (by rfl) (fun w => by go_simp; try rfl) (fun _ => hS) ?_; simp only [Act.put, Ja, Jb, Jc]; refine Kaf (i := 4) (d := some 14) rfl rfl (by kernel_rfl) (by kernel_rfl) (by kernel_rfl) (by kernel_rfl) rfl (by first | exact fun _ _ _ h => PanS.put (by decide) (by decide) h | exact fun _ _ _ h => h) (.inl ⟨by rfl, fun w hw => by (obtain ⟨ha, hb, hc⟩ := hw; go_simp; try rfl)⟩) hS ?_; simp only [Act.put, Ja, Jb, Jc]; refine Kaa (i := 6) (d := some 16) rfl rfl (by kernel_rfl) (by kernel_rfl) (by kernel_rfl) rfl (by first | exact fun _ _ _ h => PanS.put (by decide) (by decide) h | exact fun _ _ _ h => h) (by rfl) (fun w => by go_simp; try rfl) (fun _ => hS) ?_; simp only [Act.put, Ja, Jb, Jc]; refine Kaf (i := 7) (d := some 17) rfl rfl (by kernel_rfl) (by kernel_rfl) (by kernel_rfl) (by kernel_rfl) rfl (by first | exact fun _ _ _ h => PanS.put (by decide) (by decide) h | exact fun _ _ _ h => h) (.inl ⟨by rfl, fun w hw => by (obtain ⟨ha, hb, hc⟩ := hw; go_simp; try rfl)⟩) hS ?_; simp only [Act.put, Ja, Jb, Jc]; refine Kcs (i := 2) (j := 9) (by kernel_rfl) rfl rfl rfl rfl ?_ ?_
  ·refine Oper.wp_calledP (d := some 12) (w1 := W0.drew) (g := 76) (args := #[.string F0]) rfl (by go_simp; try rfl) (N := fun u w' => ∃ p, u = .pointer (some ⟨p, 0, none⟩) ∧ W0.drew.heap.size ≤ p ∧ Rdr p B0 0 w' ∧ Below W0.drew.heap.size W0.drew w') ((HO0.out W0.drew hbd).mono ?_) ?_
   ·rintro e we ⟨p, rfl, k1, k2, k3⟩; exact .inl ⟨_, rfl, p, rfl, k1, k2, k3⟩
   rintro u w1 ⟨p0, rfl, hp0, hr0, hbe⟩; have hlt0 : W0.heap.size ≤ p0 := by have := hbd.size; omega
   have hb1 : Below W0.heap.size W0 w1 := then_ hbd hbe; have hk := HF.out.below hb1 HF.out.lt; have hS : w1.cell? ⟨q, 0, none⟩ = some (.string F0) ∧ w1.cell? ⟨q, 1, none⟩ = some (.string F1) ∧ w1.cell? ⟨q, 2, none⟩ = some (.string F2) := ⟨hk.cell 0, hk.cell 1, hk.cell 2⟩; refine ⟨fun _ => hS, ?_⟩; simp only [Act.put, Ja, Jb, Jc]; refine Kcs (i := 5) (j := 9) (by kernel_rfl) rfl rfl rfl rfl ?_ ?_
   ·refine Oper.wp_calledP (d := some 15) (w1 := w1) (g := 76) (args := #[.string F1]) rfl (by go_simp; try rfl) (N := fun u w' => ∃ p, u = .pointer (some ⟨p, 0, none⟩) ∧ w1.heap.size ≤ p ∧ Rdr p B1 0 w' ∧ Below w1.heap.size w1 w') ((HO1.out w1 hb1).mono ?_) ?_
    ·rintro e we ⟨p, rfl, k1, k2, k3⟩; exact .inl ⟨_, rfl, p, rfl, k1, k2, k3⟩
    rintro u w2 ⟨p1, rfl, hp1, hr1, hbe⟩; have hlt1 : p0 < p1 := by have := hr0.lt; omega
    have hr0 := hr0.below hbe; have hb2 : Below W0.heap.size W0 w2 := then_ hb1 hbe; have hk := HF.out.below hb2 HF.out.lt; have hS : w2.cell? ⟨q, 0, none⟩ = some (.string F0) ∧ w2.cell? ⟨q, 1, none⟩ = some (.string F1) ∧ w2.cell? ⟨q, 2, none⟩ = some (.string F2) := ⟨hk.cell 0, hk.cell 1, hk.cell 2⟩; refine ⟨fun _ => hS, ?_⟩; simp only [Act.put, Ja, Jb, Jc]; refine Kcs (i := 8) (j := 9) (by kernel_rfl) rfl rfl rfl rfl ?_ ?_
    ·refine Oper.wp_calledP (d := some 18) (w1 := w2) (g := 76) (args := #[.string F2]) rfl (by go_simp; try rfl) (N := fun u w' => ∃ p, u = .pointer (some ⟨p, 0, none⟩) ∧ w2.heap.size ≤ p ∧ Rdr p B2 0 w' ∧ Below w2.heap.size w2 w') ((HO2.out w2 hb2).mono ?_) ?_
     ·rintro e we ⟨p, rfl, k1, k2, k3⟩; exact .inl ⟨_, rfl, p, rfl, k1, k2, k3⟩
     rintro u w3 ⟨p2, rfl, hp2, hr2, hbe⟩; have hlt2 : p1 < p2 := by have := hr1.lt; omega
     have hr0 := hr0.below hbe; have hr1 := hr1.below hbe; have hb3 : Below W0.heap.size W0 w3 := then_ hb2 hbe; have hk := HF.out.below hb3 HF.out.lt; have hS : w3.cell? ⟨q, 0, none⟩ = some (.string F0) ∧ w3.cell? ⟨q, 1, none⟩ = some (.string F1) ∧ w3.cell? ⟨q, 2, none⟩ = some (.string F2) := ⟨hk.cell 0, hk.cell 1, hk.cell 2⟩; refine ⟨fun _ => hS, ?_⟩; simp only [Act.put, Ja, Jb, Jc]; refine Kac (i := 9) (by kernel_rfl) rfl rfl ?_; refine Oper.wp_ran (d := some 5) (w' := w3.alloc (.cells #[.pointer none] 157)) (v := .pointer (some ⟨w3.heap.size, 0, none⟩)) rfl (by go_simp; try rfl) ?_; have hbe : Below w3.heap.size w3 (w3.alloc (.cells #[.pointer none] 157)) := (Below.refl _ _).alloc (Nat.le_refl _) _; have hbx : Blk (w3.alloc (.cells #[.pointer none] 157)) w3.heap.size 157 #[.pointer none] := Blk.new _ _ _; obtain ⟨b5, hb5e⟩ : ∃ b, w3.heap.size = b := ⟨_, rfl⟩; have hb5q : W0.heap.size ≤ b5 := by rw [← hb5e]; exact hb3.size
     obtain ⟨w4, hwe⟩ : ∃ x, w3.alloc (.cells #[.pointer none] 157) = x := ⟨_, rfl⟩; rw [hwe] at hbe hbx
     try rw [hwe]
     rw [hb5e] at hbx
     try rw [hb5e]
     have hr0 := hr0.below hbe; have hr1 := hr1.below hbe; have hr2 := hr2.below hbe; have hb4 : Below W0.heap.size W0 w4 := then_ hb3 hbe; have hk := HF.out.below hb4 HF.out.lt; have hS : w4.cell? ⟨q, 0, none⟩ = some (.string F0) ∧ w4.cell? ⟨q, 1, none⟩ = some (.string F1) ∧ w4.cell? ⟨q, 2, none⟩ = some (.string F2) := ⟨hk.cell 0, hk.cell 1, hk.cell 2⟩; refine ⟨fun _ => hS, ?_⟩; simp only [Act.put, Ja, Jb, Jc]; refine Kaa (i := 10) (d := some 4) rfl rfl (by kernel_rfl) (by kernel_rfl) (by kernel_rfl) rfl (by first | exact fun _ _ _ h => PanS.put (by decide) (by decide) h | exact fun _ _ _ h => h) (by rfl) (fun w => by go_simp; try rfl) (fun _ => hS) ?_; simp only [Act.put, Ja, Jb, Jc]; refine Kac (i := 11) (by kernel_rfl) rfl rfl ?_; have c5 : w4.cell? ⟨b5, 0, none⟩ = some (.pointer none) := hbx.cell 0; have f5 := hbx.frozen 0; refine Oper.wp_skipped (w' := w4.setCell ⟨b5, 0, none⟩ (.pointer (some ⟨p1, 0, none⟩))) rfl (by go_simp) ?_; refine ⟨fun _ => by have hk2 := hk.far (p := ⟨b5, 0, none⟩) (by show q ≠ b5; omega) (.pointer (some ⟨p1, 0, none⟩)); exact ⟨hk2.cell 0, hk2.cell 1, hk2.cell 2⟩, ?_⟩; refine Kac (i := 12) (by kernel_rfl) rfl rfl ?_; refine Oper.wp_ran (d := some 6) (v := .pointer (some ⟨p2, 0, none⟩)) rfl (by go_simp; try rfl) ?_; refine ⟨fun h => absurd h (by decide), ?_⟩; simp only [Act.put, Ja, Jb, Jc]; refine Kao (by kernel_rfl) ?_ _; have hpn := HPN.out.below hb4; have HOPEN := Jh (Kdi.made (hz0 := hz0) (hqw := HQ.out) hpn hr0 hr1 hr2 hbx hlt1 hlt2 (by omega) trivial hb5q); dsimp only [Kjy]; clear hS hr0 hr1 hr2 hbx hk hbe hb4 c5 f5 hpn; go_wp2_with fail
     go_meet
     exact ⟨_, _, _, _, rfl, rfl, rfl, HOPEN.out⟩
    ·refine Oper.wp_ran (d := some 5) (w' := w2.alloc (.cells #[.pointer none] 157)) (v := .pointer (some ⟨w2.heap.size, 0, none⟩)) rfl (by go_simp; try rfl) ?_; have hbe : Below w2.heap.size w2 (w2.alloc (.cells #[.pointer none] 157)) := (Below.refl _ _).alloc (Nat.le_refl _) _; have hbx : Blk (w2.alloc (.cells #[.pointer none] 157)) w2.heap.size 157 #[.pointer none] := Blk.new _ _ _; obtain ⟨b5, hb5e⟩ : ∃ b, w2.heap.size = b := ⟨_, rfl⟩; have hb5q : W0.heap.size ≤ b5 := by rw [← hb5e]; exact hb2.size
     obtain ⟨w3, hwe⟩ : ∃ x, w2.alloc (.cells #[.pointer none] 157) = x := ⟨_, rfl⟩; rw [hwe] at hbe hbx
     try rw [hwe]
     rw [hb5e] at hbx
     try rw [hb5e]
     have hr0 := hr0.below hbe; have hr1 := hr1.below hbe; have hb3 : Below W0.heap.size W0 w3 := then_ hb2 hbe; have hk := HF.out.below hb3 HF.out.lt; have hS : w3.cell? ⟨q, 0, none⟩ = some (.string F0) ∧ w3.cell? ⟨q, 1, none⟩ = some (.string F1) ∧ w3.cell? ⟨q, 2, none⟩ = some (.string F2) := ⟨hk.cell 0, hk.cell 1, hk.cell 2⟩; refine ⟨fun _ => hS, ?_⟩; simp only [Act.put, Ja, Jb, Jc]; refine Kac (i := 8) (by kernel_rfl) rfl rfl ?_; refine Oper.wp_calledP (d := some 18) (w1 := w3) (g := 76) (args := #[.string F2]) rfl (by go_simp; try rfl) (N := fun u w' => ∃ p, u = .pointer (some ⟨p, 0, none⟩) ∧ w3.heap.size ≤ p ∧ Rdr p B2 0 w' ∧ Below w3.heap.size w3 w') ((HO2.out w3 hb3).mono ?_) ?_
     ·rintro e we ⟨p, rfl, k1, k2, k3⟩; exact .inl ⟨_, rfl, p, rfl, k1, k2, k3⟩
     rintro u w4 ⟨p2, rfl, hp2, hr2, hbe⟩; have hlt2 : p1 < p2 := by have := hr1.lt; omega
     have hr0 := hr0.below hbe; have hr1 := hr1.below hbe; have hbx := hbx.below hbe hbx.lt; have hb4 : Below W0.heap.size W0 w4 := then_ hb3 hbe; have hk := HF.out.below hb4 HF.out.lt; have hS : w4.cell? ⟨q, 0, none⟩ = some (.string F0) ∧ w4.cell? ⟨q, 1, none⟩ = some (.string F1) ∧ w4.cell? ⟨q, 2, none⟩ = some (.string F2) := ⟨hk.cell 0, hk.cell 1, hk.cell 2⟩; refine ⟨fun _ => hS, ?_⟩; simp only [Act.put, Ja, Jb, Jc]; refine Kaa (i := 10) (d := some 4) rfl rfl (by kernel_rfl) (by kernel_rfl) (by kernel_rfl) rfl (by first | exact fun _ _ _ h => PanS.put (by decide) (by decide) h | exact fun _ _ _ h => h) (by rfl) (fun w => by go_simp; try rfl) (fun _ => hS) ?_; simp only [Act.put, Ja, Jb, Jc]; refine Kac (i := 11) (by kernel_rfl) rfl rfl ?_; have c5 : w4.cell? ⟨b5, 0, none⟩ = some (.pointer none) := hbx.cell 0; have f5 := hbx.frozen 0; refine Oper.wp_skipped (w' := w4.setCell ⟨b5, 0, none⟩ (.pointer (some ⟨p1, 0, none⟩))) rfl (by go_simp) ?_; refine ⟨fun _ => by have hk2 := hk.far (p := ⟨b5, 0, none⟩) (by show q ≠ b5; omega) (.pointer (some ⟨p1, 0, none⟩)); exact ⟨hk2.cell 0, hk2.cell 1, hk2.cell 2⟩, ?_⟩; refine Kac (i := 12) (by kernel_rfl) rfl rfl ?_; refine Oper.wp_ran (d := some 6) (v := .pointer (some ⟨p2, 0, none⟩)) rfl (by go_simp; try rfl) ?_; refine ⟨fun h => absurd h (by decide), ?_⟩; simp only [Act.put, Ja, Jb, Jc]; refine Kao (by kernel_rfl) ?_ _; have hpn := HPN.out.below hb4; have HOPEN := Jh (Kdi.made (hz0 := hz0) (hqw := HQ.out) hpn hr0 hr1 hr2 hbx hlt1 hlt2 (by omega) trivial hb5q); dsimp only [Kjy]; clear hS hr0 hr1 hr2 hbx hk hbe hb4 c5 f5 hpn; go_wp2_with fail
     go_meet
     exact ⟨_, _, _, _, rfl, rfl, rfl, HOPEN.out⟩
   ·refine Oper.wp_ran (d := some 5) (w' := w1.alloc (.cells #[.pointer none] 157)) (v := .pointer (some ⟨w1.heap.size, 0, none⟩)) rfl (by go_simp; try rfl) ?_; have hbe : Below w1.heap.size w1 (w1.alloc (.cells #[.pointer none] 157)) := (Below.refl _ _).alloc (Nat.le_refl _) _; have hbx : Blk (w1.alloc (.cells #[.pointer none] 157)) w1.heap.size 157 #[.pointer none] := Blk.new _ _ _; obtain ⟨b5, hb5e⟩ : ∃ b, w1.heap.size = b := ⟨_, rfl⟩; have hb5q : W0.heap.size ≤ b5 := by rw [← hb5e]; exact hb1.size
    obtain ⟨w2, hwe⟩ : ∃ x, w1.alloc (.cells #[.pointer none] 157) = x := ⟨_, rfl⟩; rw [hwe] at hbe hbx
    try rw [hwe]
    rw [hb5e] at hbx
    try rw [hb5e]
    have hr0 := hr0.below hbe; have hb2 : Below W0.heap.size W0 w2 := then_ hb1 hbe; have hk := HF.out.below hb2 HF.out.lt; have hS : w2.cell? ⟨q, 0, none⟩ = some (.string F0) ∧ w2.cell? ⟨q, 1, none⟩ = some (.string F1) ∧ w2.cell? ⟨q, 2, none⟩ = some (.string F2) := ⟨hk.cell 0, hk.cell 1, hk.cell 2⟩; refine ⟨fun _ => hS, ?_⟩; simp only [Act.put, Ja, Jb, Jc]; refine Kac (i := 5) (by kernel_rfl) rfl rfl ?_; refine Oper.wp_calledP (d := some 15) (w1 := w2) (g := 76) (args := #[.string F1]) rfl (by go_simp; try rfl) (N := fun u w' => ∃ p, u = .pointer (some ⟨p, 0, none⟩) ∧ w2.heap.size ≤ p ∧ Rdr p B1 0 w' ∧ Below w2.heap.size w2 w') ((HO1.out w2 hb2).mono ?_) ?_
    ·rintro e we ⟨p, rfl, k1, k2, k3⟩; exact .inl ⟨_, rfl, p, rfl, k1, k2, k3⟩
    rintro u w3 ⟨p1, rfl, hp1, hr1, hbe⟩; have hlt1 : p0 < p1 := by have := hr0.lt; omega
    have hr0 := hr0.below hbe; have hbx := hbx.below hbe hbx.lt; have hb3 : Below W0.heap.size W0 w3 := then_ hb2 hbe; have hk := HF.out.below hb3 HF.out.lt; have hS : w3.cell? ⟨q, 0, none⟩ = some (.string F0) ∧ w3.cell? ⟨q, 1, none⟩ = some (.string F1) ∧ w3.cell? ⟨q, 2, none⟩ = some (.string F2) := ⟨hk.cell 0, hk.cell 1, hk.cell 2⟩; refine ⟨fun _ => hS, ?_⟩; simp only [Act.put, Ja, Jb, Jc]; refine Kac (i := 8) (by kernel_rfl) rfl rfl ?_; refine Oper.wp_calledP (d := some 18) (w1 := w3) (g := 76) (args := #[.string F2]) rfl (by go_simp; try rfl) (N := fun u w' => ∃ p, u = .pointer (some ⟨p, 0, none⟩) ∧ w3.heap.size ≤ p ∧ Rdr p B2 0 w' ∧ Below w3.heap.size w3 w') ((HO2.out w3 hb3).mono ?_) ?_
    ·rintro e we ⟨p, rfl, k1, k2, k3⟩; exact .inl ⟨_, rfl, p, rfl, k1, k2, k3⟩
    rintro u w4 ⟨p2, rfl, hp2, hr2, hbe⟩; have hlt2 : p1 < p2 := by have := hr1.lt; omega
    have hr0 := hr0.below hbe; have hr1 := hr1.below hbe; have hbx := hbx.below hbe hbx.lt; have hb4 : Below W0.heap.size W0 w4 := then_ hb3 hbe; have hk := HF.out.below hb4 HF.out.lt; have hS : w4.cell? ⟨q, 0, none⟩ = some (.string F0) ∧ w4.cell? ⟨q, 1, none⟩ = some (.string F1) ∧ w4.cell? ⟨q, 2, none⟩ = some (.string F2) := ⟨hk.cell 0, hk.cell 1, hk.cell 2⟩; refine ⟨fun _ => hS, ?_⟩; simp only [Act.put, Ja, Jb, Jc]; refine Kaa (i := 10) (d := some 4) rfl rfl (by kernel_rfl) (by kernel_rfl) (by kernel_rfl) rfl (by first | exact fun _ _ _ h => PanS.put (by decide) (by decide) h | exact fun _ _ _ h => h) (by rfl) (fun w => by go_simp; try rfl) (fun _ => hS) ?_; simp only [Act.put, Ja, Jb, Jc]; refine Kac (i := 11) (by kernel_rfl) rfl rfl ?_; have c5 : w4.cell? ⟨b5, 0, none⟩ = some (.pointer none) := hbx.cell 0; have f5 := hbx.frozen 0; refine Oper.wp_skipped (w' := w4.setCell ⟨b5, 0, none⟩ (.pointer (some ⟨p1, 0, none⟩))) rfl (by go_simp) ?_; refine ⟨fun _ => by have hk2 := hk.far (p := ⟨b5, 0, none⟩) (by show q ≠ b5; omega) (.pointer (some ⟨p1, 0, none⟩)); exact ⟨hk2.cell 0, hk2.cell 1, hk2.cell 2⟩, ?_⟩; refine Kac (i := 12) (by kernel_rfl) rfl rfl ?_; refine Oper.wp_ran (d := some 6) (v := .pointer (some ⟨p2, 0, none⟩)) rfl (by go_simp; try rfl) ?_; refine ⟨fun h => absurd h (by decide), ?_⟩; simp only [Act.put, Ja, Jb, Jc]; refine Kao (by kernel_rfl) ?_ _; have hpn := HPN.out.below hb4; have HOPEN := Jh (Kdi.made (hz0 := hz0) (hqw := HQ.out) hpn hr0 hr1 hr2 hbx hlt1 hlt2 (by omega) trivial hb5q); dsimp only [Kjy]; clear hS hr0 hr1 hr2 hbx hk hbe hb4 c5 f5 hpn; go_wp2_with fail
    go_meet
    exact ⟨_, _, _, _, rfl, rfl, rfl, HOPEN.out⟩
  ·refine Oper.wp_ran (d := some 5) (w' := W0.drew.alloc (.cells #[.pointer none] 157)) (v := .pointer (some ⟨W0.drew.heap.size, 0, none⟩)) rfl (by go_simp; try rfl) ?_; have hbe : Below W0.drew.heap.size W0.drew (W0.drew.alloc (.cells #[.pointer none] 157)) := (Below.refl _ _).alloc (Nat.le_refl _) _; have hbx : Blk (W0.drew.alloc (.cells #[.pointer none] 157)) W0.drew.heap.size 157 #[.pointer none] := Blk.new _ _ _; obtain ⟨b5, hb5e⟩ : ∃ b, W0.drew.heap.size = b := ⟨_, rfl⟩; have hb5q : W0.heap.size ≤ b5 := by rw [← hb5e]; exact hbd.size
   obtain ⟨w1, hwe⟩ : ∃ x, W0.drew.alloc (.cells #[.pointer none] 157) = x := ⟨_, rfl⟩; rw [hwe] at hbe hbx
   try rw [hwe]
   rw [hb5e] at hbx
   try rw [hb5e]
   have hb1 : Below W0.heap.size W0 w1 := then_ hbd hbe; have hk := HF.out.below hb1 HF.out.lt; have hS : w1.cell? ⟨q, 0, none⟩ = some (.string F0) ∧ w1.cell? ⟨q, 1, none⟩ = some (.string F1) ∧ w1.cell? ⟨q, 2, none⟩ = some (.string F2) := ⟨hk.cell 0, hk.cell 1, hk.cell 2⟩; refine ⟨fun _ => hS, ?_⟩; simp only [Act.put, Ja, Jb, Jc]; refine Kac (i := 2) (by kernel_rfl) rfl rfl ?_; refine Oper.wp_calledP (d := some 12) (w1 := w1) (g := 76) (args := #[.string F0]) rfl (by go_simp; try rfl) (N := fun u w' => ∃ p, u = .pointer (some ⟨p, 0, none⟩) ∧ w1.heap.size ≤ p ∧ Rdr p B0 0 w' ∧ Below w1.heap.size w1 w') ((HO0.out w1 hb1).mono ?_) ?_
   ·rintro e we ⟨p, rfl, k1, k2, k3⟩; exact .inl ⟨_, rfl, p, rfl, k1, k2, k3⟩
   rintro u w2 ⟨p0, rfl, hp0, hr0, hbe⟩; have hlt0 : W0.heap.size ≤ p0 := by have := hb1.size; omega
   have hbx := hbx.below hbe hbx.lt; have hb2 : Below W0.heap.size W0 w2 := then_ hb1 hbe; have hk := HF.out.below hb2 HF.out.lt; have hS : w2.cell? ⟨q, 0, none⟩ = some (.string F0) ∧ w2.cell? ⟨q, 1, none⟩ = some (.string F1) ∧ w2.cell? ⟨q, 2, none⟩ = some (.string F2) := ⟨hk.cell 0, hk.cell 1, hk.cell 2⟩; refine ⟨fun _ => hS, ?_⟩; simp only [Act.put, Ja, Jb, Jc]; refine Kac (i := 5) (by kernel_rfl) rfl rfl ?_; refine Oper.wp_calledP (d := some 15) (w1 := w2) (g := 76) (args := #[.string F1]) rfl (by go_simp; try rfl) (N := fun u w' => ∃ p, u = .pointer (some ⟨p, 0, none⟩) ∧ w2.heap.size ≤ p ∧ Rdr p B1 0 w' ∧ Below w2.heap.size w2 w') ((HO1.out w2 hb2).mono ?_) ?_
   ·rintro e we ⟨p, rfl, k1, k2, k3⟩; exact .inl ⟨_, rfl, p, rfl, k1, k2, k3⟩
   rintro u w3 ⟨p1, rfl, hp1, hr1, hbe⟩; have hlt1 : p0 < p1 := by have := hr0.lt; omega
   have hr0 := hr0.below hbe; have hbx := hbx.below hbe hbx.lt; have hb3 : Below W0.heap.size W0 w3 := then_ hb2 hbe; have hk := HF.out.below hb3 HF.out.lt; have hS : w3.cell? ⟨q, 0, none⟩ = some (.string F0) ∧ w3.cell? ⟨q, 1, none⟩ = some (.string F1) ∧ w3.cell? ⟨q, 2, none⟩ = some (.string F2) := ⟨hk.cell 0, hk.cell 1, hk.cell 2⟩; refine ⟨fun _ => hS, ?_⟩; simp only [Act.put, Ja, Jb, Jc]; refine Kac (i := 8) (by kernel_rfl) rfl rfl ?_; refine Oper.wp_calledP (d := some 18) (w1 := w3) (g := 76) (args := #[.string F2]) rfl (by go_simp; try rfl) (N := fun u w' => ∃ p, u = .pointer (some ⟨p, 0, none⟩) ∧ w3.heap.size ≤ p ∧ Rdr p B2 0 w' ∧ Below w3.heap.size w3 w') ((HO2.out w3 hb3).mono ?_) ?_
   ·rintro e we ⟨p, rfl, k1, k2, k3⟩; exact .inl ⟨_, rfl, p, rfl, k1, k2, k3⟩
   rintro u w4 ⟨p2, rfl, hp2, hr2, hbe⟩; have hlt2 : p1 < p2 := by have := hr1.lt; omega
   have hr0 := hr0.below hbe; have hr1 := hr1.below hbe; have hbx := hbx.below hbe hbx.lt; have hb4 : Below W0.heap.size W0 w4 := then_ hb3 hbe; have hk := HF.out.below hb4 HF.out.lt; have hS : w4.cell? ⟨q, 0, none⟩ = some (.string F0) ∧ w4.cell? ⟨q, 1, none⟩ = some (.string F1) ∧ w4.cell? ⟨q, 2, none⟩ = some (.string F2) := ⟨hk.cell 0, hk.cell 1, hk.cell 2⟩; refine ⟨fun _ => hS, ?_⟩; simp only [Act.put, Ja, Jb, Jc]; refine Kaa (i := 10) (d := some 4) rfl rfl (by kernel_rfl) (by kernel_rfl) (by kernel_rfl) rfl (by first | exact fun _ _ _ h => PanS.put (by decide) (by decide) h | exact fun _ _ _ h => h) (by rfl) (fun w => by go_simp; try rfl) (fun _ => hS) ?_; simp only [Act.put, Ja, Jb, Jc]; refine Kac (i := 11) (by kernel_rfl) rfl rfl ?_; have c5 : w4.cell? ⟨b5, 0, none⟩ = some (.pointer none) := hbx.cell 0; have f5 := hbx.frozen 0; refine Oper.wp_skipped (w' := w4.setCell ⟨b5, 0, none⟩ (.pointer (some ⟨p1, 0, none⟩))) rfl (by go_simp) ?_; refine ⟨fun _ => by have hk2 := hk.far (p := ⟨b5, 0, none⟩) (by show q ≠ b5; omega) (.pointer (some ⟨p1, 0, none⟩)); exact ⟨hk2.cell 0, hk2.cell 1, hk2.cell 2⟩, ?_⟩; refine Kac (i := 12) (by kernel_rfl) rfl rfl ?_; refine Oper.wp_ran (d := some 6) (v := .pointer (some ⟨p2, 0, none⟩)) rfl (by go_simp; try rfl) ?_; refine ⟨fun h => absurd h (by decide), ?_⟩; simp only [Act.put, Ja, Jb, Jc]; refine Kao (by kernel_rfl) ?_ _; have hpn := HPN.out.below hb4; have HOPEN := Jh (Kdi.made (hz0 := hz0) (hqw := HQ.out) hpn hr0 hr1 hr2 hbx hlt1 hlt2 (by omega) trivial hb5q); dsimp only [Kjy]; clear hS hr0 hr1 hr2 hbx hk hbe hb4 c5 f5 hpn; go_wp2_with fail
   go_meet
   exact ⟨_, _, _, _, rfl, rfl, rfl, HOPEN.out⟩
 obtain ⟨pm, b5, pc, pr, rfl, rfl, rfl, hop⟩ := hcut; obtain ⟨w1, rfl⟩ : ∃ x, x = wc := ⟨_, rfl⟩; have hsz0 : B0.size ≤ 268435456 := by have a := Khd HR0.out; have b := H0.out; unfold bSz at b; rw [← HBB0.out]; show bb0.toArray.size ≤ _; rw [List.size_toArray]; have : F0.data.toList.length = F0.size := rfl; omega
 have hsz1 : B1.size ≤ 268435456 := by have a := Khd HR1.out; have b := H1.out; unfold bSz at b; rw [← HBB1.out]; show bb1.toArray.size ≤ _; rw [List.size_toArray]; have : F1.data.toList.length = F1.size := rfl; omega
 have hsz2 : B2.size ≤ 268435456 := by have a := Khd HR2.out; have b := H2.out; unfold bSz at b; rw [← HBB2.out]; show bb2.toArray.size ≤ _; rw [List.size_toArray]; have : F2.data.toList.length = F2.size := rfl; omega
 have hpc := Qej (f := filOf F0 F1 F2) HR0.out HR1.out HR2.out; have hd0 : B0.data.toList = bb0 := by rw [← HBB0.out]
 have hd1 : B1.data.toList = bb1 := by rw [← HBB1.out]
 have hd2 : B2.data.toList = bb2 := by rw [← HBB2.out]
 rw [← hd0, ← hd1, ← hd2] at hpc; have hnone : Kfr (filOf F0 F1 F2) = none → r = none := fun h => by rw [← HR.out]; unfold Keq; rw [h]
 have HNO := Jh hnone; have HOP := Jh hop; have hU := Kdg pm 0 B0 w1 hop.m (by omega)
 have hblv : Kbp [F0.data.toList, F1.data.toList, F2.data.toList] = 190 := by
  rw [Kbp, HR0.out]; dsimp only; rw [Kbp, HR1.out]; dsimp only; rw [Kbp, HR2.out]; rfl
 have HBLV := Jh hblv; clear hnone hop hd0 hd1 hd2 hblv
 cases hm0 : ruAt B0.data.toList 0 with
 | none =>
  rw [hm0] at hpc hU; have HNONE := Jh (HNO.out hpc); have HU := Jh hU; clear hpc hU hm0; go_wp2_with fail
  refine HU.out.mono ?_; rintro e w2 ⟨⟨f, hf, rfl⟩, hb2⟩; have hpn := HOP.out.n.below hb2; unfold Kaq; go_wp2_with fail
  refine leaves_cons (f := 74) (args := #[.pointer (some ⟨q, 0, none⟩), .pointer (some ⟨q + 1, 0, none⟩), .pointer (some ⟨q + 2, 0, none⟩)]) (by simp) (by simp [go_sem]) ?_; refine (Kcl w2 hpn H0.out H1.out H2.out HN.out HQ.out _ _).mono ?_; rintro e u' w'' ⟨rfl, rfl, k1, k2, k3⟩; refine Kdz k1 k2 k3 HNONE.out ?_ ?_ HQ.out
  all_goals rfl
 | some x =>
 obtain ⟨v0, j0⟩ := x; rw [hm0] at hpc hU; have hv64 := Kdu hm0; dsimp only at hpc; have HU := Jh hU; clear hU hm0; go_wp2_with fail
 refine HU.out.mono ?_; rintro e w2 ⟨rfl, hr2, hk2⟩; dsimp only at hr2 ⊢; have HOP2 := Jh (HOP.out.kept hk2 hr2); obtain ⟨mv, hmv⟩ : ∃ mv, min v0 9 = mv := ⟨_, rfl⟩; have hmin : min (v0 : Int) 9 = (mv : Int) := by omega
 have hmw : IntKind.i64.wrap (mv : Int) = (mv : Int) := IntWalk.i64_in _ (by omega); have HMV := Jh hmv; have hI := Kit pm j0 B0 w2 hr2 (by omega); clear hk2 hr2 hmv
 cases hm1 : riAt B0.data.toList j0 with
 | none =>
  rw [hm1] at hpc hI; have HNONE := Jh (HNO.out hpc); have HI := Jh hI; clear hpc hI hm1; go_wp2_with fail
  refine HI.out.mono ?_; rintro e w3 ⟨⟨f, hf, rfl⟩, hb3⟩; have hpn := HOP2.out.n.below hb3; unfold Kaq; go_wp2_with fail
  refine leaves_cons (f := 74) (args := #[.pointer (some ⟨q, 0, none⟩), .pointer (some ⟨q + 1, 0, none⟩), .pointer (some ⟨q + 2, 0, none⟩)]) (by simp) (by simp [go_sem]) ?_; refine (Kcl w3 hpn H0.out H1.out H2.out HN.out HQ.out _ _).mono ?_; rintro e u' w'' ⟨rfl, rfl, k1, k2, k3⟩; refine Kdz k1 k2 k3 HNONE.out ?_ ?_ HQ.out
  all_goals rfl
 | some x =>
 obtain ⟨av, j1⟩ := x; rw [hm1] at hpc hI; dsimp only at hpc; have HI := Jh hI; clear hI hm1; go_wp2_with fail
 refine HI.out.mono ?_; rintro e w3 ⟨rfl, hr3, hk3⟩; dsimp only at hr3 ⊢; have HOP3 := Jh (HOP2.out.kept hk3 hr3); have hI := Kit pm j1 B0 w3 hr3 (by omega); clear hk3 hr3
 cases hm2 : riAt B0.data.toList j1 with
 | none =>
  rw [hm2] at hpc hI; have HNONE := Jh (HNO.out hpc); have HI2 := Jh hI; clear hpc hI hm2; go_wp2_with fail
  refine HI2.out.mono ?_; rintro e w4 ⟨⟨f, hf, rfl⟩, hb4⟩; have hpn := HOP3.out.n.below hb4; unfold Kaq; go_wp2_with fail
  refine leaves_cons (f := 74) (args := #[.pointer (some ⟨q, 0, none⟩), .pointer (some ⟨q + 1, 0, none⟩), .pointer (some ⟨q + 2, 0, none⟩)]) (by simp) (by simp [go_sem]) ?_; refine (Kcl w4 hpn H0.out H1.out H2.out HN.out HQ.out _ _).mono ?_; rintro e u' w'' ⟨rfl, rfl, k1, k2, k3⟩; refine Kdz k1 k2 k3 HNONE.out ?_ ?_ HQ.out
  all_goals rfl
 | some x =>
 obtain ⟨bv, j2⟩ := x; rw [hm2] at hpc hI; dsimp only at hpc; have HI2 := Jh hI; clear hI hm2; go_wp2_with fail
 refine HI2.out.mono ?_; rintro e w4 ⟨rfl, hr4, hk4⟩; dsimp only at hr4 ⊢; have hop4 := HOP3.out.kept hk4 hr4; obtain ⟨x0, y0, z0, v9, hc4⟩ := hop4.n.c; have HOP4 := Jh hop4; have HC4 := Jh hc4; have HPCC := Jh hpc; have c0 : w4.cell? ⟨q + 1, 0, none⟩ = some x0 := hc4.cell 0; have c1 : w4.cell? ⟨q + 1, 1, none⟩ = some y0 := hc4.cell 1; have c2 : w4.cell? ⟨q + 1, 2, none⟩ = some z0 := hc4.cell 2; have c3 : w4.cell? ⟨q + 1, 3, none⟩ = some v9 := hc4.cell 3; have f0 := hc4.frozen 0; have f1 := hc4.frozen 1; have f2 := hc4.frozen 2; have f3 := hc4.frozen 3; have hcl := hc4.lt; clear hk4 hr4 hop4 hc4 hpc; go_upto_region 4 with fail
 have hcz := ((((HC4.out.set_ 0 (.int .i64 (mv : Int))).set_ 1 (.int .i64 av)).set_ 2 (.int .i64 bv)).set_ 3 (.slice none 0 0)); have hopz := (((HOP4.out.setC (i := 0) (.int .i64 (mv : Int))).setC (i := 1) (.int .i64 av)).setC (i := 2) (.int .i64 bv)).setC (i := 3) (.slice none 0 0); obtain ⟨w5, hw5⟩ : ∃ w5, (((w4.setCell ⟨q + 1, 0, none⟩ (.int .i64 (mv : Int))).setCell ⟨q + 1, 1, none⟩ (.int .i64 av)).setCell ⟨q + 1, 2, none⟩ (.int .i64 bv)).setCell ⟨q + 1, 3, none⟩ (.slice none 0 0) = w5 := ⟨_, rfl⟩; rw [hw5] at hcz hopz
 try rw [hw5]
 obtain ⟨L, hL⟩ : ∃ L : PLoc, L = ⟨w, q, b5, pc, pr, F0, F1, F2, mv, av, bv, B1⟩ := ⟨_, rfl⟩; have ho := hopz.o
 have hok : Kes L := by
  have hbp : b5 ≠ pr := hopz.b.ne_ (show Blk w5 pr _ _ from hopz.i) (by decide); rw [hL]; exact ⟨by show q ≠ pr; omega, by show q + 1 ≠ pr; omega, by show q + 2 ≠ pr; omega, hbp, by show pc ≠ pr; omega, by show q ≤ pr; omega, by show q ≤ pc; omega, by show B1.size ≤ _; omega, by show q + 3 ≤ b5; omega, HQ.out⟩
 have hpm : PM L ([], 0) (pOwn L (.slice none 0 0) []) w5 := by
  refine ⟨[], .slice none 0 0, ?_⟩; rw [hL]; refine ⟨hopz.n.f, hopz.n.e, hopz.b, hopz.c, Nat.zero_le _, hopz.n.bl, ?_, hopz.i.lt, rfl, hcz, World.ownsRow_nil _ _ _ _, rfl, fun i h hi => by simp at hi, fun i i' h h' hi => by simp at hi⟩; rintro (e | e | e | ⟨x, hx, _⟩)
  ·have e : pr = q + 1 := e; omega
  ·have e : pr = pc := e; omega
  ·cases e
  ·simp at hx
 have hE : Kru (fun st : List Ser × Nat => st.1.length) 1099511627776 pr (PM L) (PN L) eachP (partP mv B1.data.toList) 82 83 #[.pointer (some ⟨q + 1, 0, none⟩)] #[.pointer (some ⟨q + 1, 0, none⟩), .pointer (some ⟨b5, 0, none⟩)] := by
  have hpr : L.pr = pr := by rw [hL]
  have hlq : L.q = q := by rw [hL]
  have hlb : L.b5 = b5 := by rw [hL]
  have hlr : L.res = mv := by rw [hL]
  have hlc : L.C = B1 := by rw [hL]
  have hlw : L.w0 = w := by rw [hL]
  refine ⟨fun _ _ => rfl, fun _ _ => rfl, fun s O W h k hk => h.lt hk, fun s O W h => ?_, fun s O W W' h hk => h.keep hok (by rw [hpr]; exact hk), fun s O W h => h.bad, fun s l => ?_, fun s n s' h1 h2 => (Kqp h2).2 (fun e => by rw [e] at h1; exact absurd h1 (by simp)), fun s O W A n c l h hz hE hc h8 hl hA => ?_, fun s O W n h h0 hz hn => ?_⟩
  ·obtain ⟨hs, v, hx⟩ := h; rw [← hpr]; exact hx.np
  ·show (s.1 ++ [_]).length = s.1.length + 1
   rw [List.length_append]; rfl
  ·have := Kxm hok W h hz A n c l hE hc h8 (fun a ha => by rw [hpr]; exact hA a ha); rw [hlq] at this; exact this
  ·have := Kvf hok W h h0 hz n hn (by rw [hlw]; exact HT.out); rw [hlq, hlb, hlr, hlc] at this; refine this.mono ?_; intro e w' h'
   cases hpp : partP mv B1.data.toList s n with
   | none =>
    rw [hpp] at h'; exact h'
   | some s' =>
    rw [hpp] at h'; exact h'
 have hser := Kjp hE B2 ([], 0) _ w5 hpm hopz.i (by omega) (by omega) rfl; obtain ⟨G, hG⟩ : ∃ G, Kcv eachP (partP mv B1.data.toList) B2.data.toList ([], 0) = G := ⟨_, rfl⟩; have hpcc := HPCC.out; rw [HMV.out, hG] at hpcc; rw [hG] at hser; have HSER := Jh hser; have HOPZ := Jh hopz; have HL := Jh hL; have HOK := Jh hok; have HG := Jh hG; have hlw : L.w0 = w := by rw [hL]
 have hlq : L.q = q := by rw [hL]
 have hl0 : L.F0 = F0 := by rw [hL]
 have hl1 : L.F1 = F1 := by rw [hL]
 have hl2 : L.F2 = F2 := by rw [hL]
 have HLW := Jh hlw; have HLQ := Jh hlq; have HL0 := Jh hl0; have HL1 := Jh hl1; have HL2 := Jh hl2; have hmf : ∀ (fn : Fn) (first cap : Array Value) (w : World), (Instr.makeFunc fn first cap).run Tryz.prog w = .ok (.func fn first cap) w := fun _ _ _ _ => rfl
 clear hser hopz hL hok hG hE hpm hcz hw5 ho hlw hlq hl0 hl1 hl2 c0 c1 c2 c3 f0 f1 f2 f3; go_wp2_with fail
 refine HSER.out.mono ?_; intro e w6 h6
 cases G with
 | none =>
  obtain ⟨⟨tt, xx, rfl⟩, hn⟩ := h6; have HNONE := Jh (HNO.out (by rw [hpcc]; rfl)); have hpn := hn.q; rw [HLW.out, HLQ.out, HL0.out, HL1.out, HL2.out] at hpn; clear hmf; go_wp2_with fail
  refine leaves_cons (f := 74) (args := #[.pointer (some ⟨q, 0, none⟩), .pointer (some ⟨q + 1, 0, none⟩), .pointer (some ⟨q + 2, 0, none⟩)]) (by simp) (by simp [go_sem]) ?_; refine (Kcl w6 hpn H0.out H1.out H2.out HN.out HQ.out _ _).mono ?_; rintro e u' w'' ⟨rfl, rfl, k1, k2, k3⟩; refine Kdz k1 k2 k3 HNONE.out ?_ ?_ HQ.out
  all_goals rfl
 | some x =>
 obtain ⟨st, i9⟩ := x; obtain ⟨rfl, O6, hpm6, _, _, _, _⟩ := h6; have hrd := Kzt HG.out; have hl1 : B1.data.toList.length = B1.size := rfl; have hl2 : B2.data.toList.length = B2.size := rfl; obtain ⟨A, cp, hcb, hso⟩ := hpm6.sers hrd.1 (by omega) (by have := hrd.2; omega)
 have hrd2 : st.1.length ≤ 268435457 ∧ smpsN st.1 ≤ 32212254720 ∧ wndsN st.1 ≤ 268435456 := by
  have := hrd.2; have := hrd.1.s; have := hrd.1.w; have := hrd.1.j; omega
 have hpn6 := hpm6.bad.q; have hlr : L.res = mv := by rw [HL.out]
 have hlf : L.frm = av := by rw [HL.out]
 have hlt : L.to_ = bv := by rw [HL.out]
 rw [HLQ.out, hlr, hlf, hlt] at hcb; rw [HLW.out, HLQ.out, HL0.out, HL1.out, HL2.out] at hpn6; have hpcs : Kfr (filOf F0 F1 F2) = some ⟨(mv : Int), av, bv, st.1⟩ := by rw [hpcc]; rfl
 obtain ⟨nn, hnn⟩ : ∃ nn, st.1.length = nn := ⟨_, rfl⟩; obtain ⟨SS, hSS⟩ : ∃ SS, st.1 = SS := ⟨_, rfl⟩; rw [hSS] at hnn hso hrd2 hpcs; have hlen9 : st.1.length = nn := by rw [hSS]; exact hnn
 rw [hlen9] at hcb; rw [hnn] at hso
 have hrp : r = if fitB ⟨(mv : Int), av, bv, SS⟩ = true ∧ Kbc ⟨(mv : Int), av, bv, SS⟩ = filOf F0 F1 F2 then some ⟨(mv : Int), av, bv, SS⟩ else none := by
  rw [← HR.out]; unfold Keq; rw [hpcs]
 have hNw6 : Kbz w6 := HN.out.below HN.out.lt (by rw [HQ.out]; exact hpn6.bl); have hDw6 : DbTab w6 := HT.out.below (by rw [HQ.out]; exact hpn6.bl)
 have hbuild := Klf ⟨(mv : Int), av, bv, SS⟩ ⟨A, nn, cp⟩ w6 hso.s hso.z (by show nn ≤ 1073741824; have := hso.n; omega) hDw6 hNw6 (fun hf => by
  have := Kps hf; have h1 : (⟨(mv : Int), av, bv, SS⟩ : Cont).series = SS := rfl; rw [h1] at this
  omega)
 have HCB := Jh hcb; have HSO := Jh hso; have HRD2 := Jh hrd2; have HPN6 := Jh hpn6; have HRP := Jh hrp; have HBU := Jh hbuild; have c0 : w6.cell? ⟨q + 1, 0, none⟩ = some (.int .i64 (mv : Int)) := hcb.cell 0; have c1 : w6.cell? ⟨q + 1, 1, none⟩ = some (.int .i64 av) := hcb.cell 1; have c2 : w6.cell? ⟨q + 1, 2, none⟩ = some (.int .i64 bv) := hcb.cell 2; have c3 : w6.cell? ⟨q + 1, 3, none⟩ = some (.slice A nn cp) := hcb.cell 3; have hcl6 := hcb.lt; clear hcb hso hrd2 hpn6 hrp hbuild hpcs hpcc hnn hSS hlen9 hpm6 hrd hNw6 hDw6 hlr hlf hlt hl1 hl2 hmf; go_wp2_with fail
 refine HBU.out.mono ?_; rintro _ w7 ⟨rfl, hb7⟩; obtain ⟨G, hG⟩ : ∃ G, Kby ⟨(mv : Int), av, bv, SS⟩ = G := ⟨_, rfl⟩; rw [hG]; obtain ⟨er, her⟩ : ∃ er : Int, (if fitB ⟨(mv : Int), av, bv, SS⟩ = true then (0 : Int) else 190) = er := ⟨_, rfl⟩; rw [her]; clear her; unfold filV txtV; have eF : ∀ F : ByteArray, (⟨F.data.toList.toArray⟩ : ByteArray) = F := fun F => by cases F; simp
 have hneq := Qfk G (filOf F0 F1 F2); unfold filOf at hneq; dsimp only at hneq; rw [eF, eF, eF] at hneq; obtain ⟨S1, hS1⟩ : ∃ S : ByteArray, (⟨G.mt.toArray⟩ : ByteArray) = S := ⟨_, rfl⟩; obtain ⟨S2, hS2⟩ : ∃ S : ByteArray, (⟨G.ck.toArray⟩ : ByteArray) = S := ⟨_, rfl⟩; obtain ⟨S3, hS3⟩ : ∃ S : ByteArray, (⟨G.ix.toArray⟩ : ByteArray) = S := ⟨_, rfl⟩; rw [hS1, hS2, hS3] at hneq; rw [hS1, hS2, hS3]; obtain ⟨dq, hdq⟩ : ∃ d, decide (G = (⟨F0.data.toList, F1.data.toList, F2.data.toList⟩ : Fil)) = d := ⟨_, rfl⟩; rw [hdq] at hneq; have HDQ := Jh hdq; have HG2 := Jh hG; clear hdq hG hS1 hS2 hS3 eF c0 c1 c2 c3 hcl6; go_upto_region 6 with fail
 have hb8 : Below w7.heap.size w7 (w7.alloc (.cells #[.string S1, .string S2, .string S3] 44)) := (Below.refl _ _).alloc (Nat.le_refl _) _; have hp8 : Blk (w7.alloc (.cells #[.string S1, .string S2, .string S3] 44)) w7.heap.size 44 #[.string S1, .string S2, .string S3] := Blk.new _ _ _; obtain ⟨w8, hw8⟩ : ∃ w8, w7.alloc (.cells #[.string S1, .string S2, .string S3] 44) = w8 := ⟨_, rfl⟩; obtain ⟨p8, hp8e⟩ : ∃ p8, w7.heap.size = p8 := ⟨_, rfl⟩; rw [hw8] at hb8 hp8
 try rw [hw8]
 have hb68 := then_ hb7 hb8; rw [hp8e] at hp8
 try rw [hp8e]
 have hpn := HPN6.out.below hb68; have hcb8 := HCB.out.below hb68 HCB.out.lt; have HSO8 := Jh (HSO.out.below hb68); have HCB8 := Jh hcb8; have HPN8 := Jh hpn; have a0 : w8.cell? ⟨p8, 0, none⟩ = some (.string S1) := hp8.cell 0; have a1 : w8.cell? ⟨p8, 1, none⟩ = some (.string S2) := hp8.cell 1; have a2 : w8.cell? ⟨p8, 2, none⟩ = some (.string S3) := hp8.cell 2; have b0 : w8.cell? ⟨q, 0, none⟩ = some (.string F0) := hpn.f.cell 0; have b1 : w8.cell? ⟨q, 1, none⟩ = some (.string F1) := hpn.f.cell 1; have b2 : w8.cell? ⟨q, 2, none⟩ = some (.string F2) := hpn.f.cell 2; have c0 : w8.cell? ⟨q + 1, 0, none⟩ = some (.int .i64 (mv : Int)) := hcb8.cell 0; have c1 : w8.cell? ⟨q + 1, 1, none⟩ = some (.int .i64 av) := hcb8.cell 1; have c2 : w8.cell? ⟨q + 1, 2, none⟩ = some (.int .i64 bv) := hcb8.cell 2; have c3 : w8.cell? ⟨q + 1, 3, none⟩ = some (.slice A nn cp) := hcb8.cell 3; have f0 := hcb8.frozen 0; have f1 := hcb8.frozen 1; have f2 := hcb8.frozen 2; have f3 := hcb8.frozen 3; have e0 : w8.cell? ⟨q + 2, 0, none⟩ = some (.int .i64 0) := hpn.e.cell 0; have ef := hpn.e.frozen 0; clear hb7 hb8 hp8 hw8 hp8e hb68 hcb8
 cases dq with
 | false =>
  simp only [Bool.not_false] at hneq
  have hrn : r = none := by
   rw [HRP.out]; refine if_neg (fun h => ?_); have h1 := of_decide_eq_false HDQ.out; rw [← HG2.out] at h1; unfold Kby at h1; rw [if_pos h.1] at h1; exact h1 h.2
  have HNONE := Jh hrn; clear hrn; go_wp2_with fail
  refine leaves_cons (f := 74) (args := #[.pointer (some ⟨q, 0, none⟩), .pointer (some ⟨q + 1, 0, none⟩), .pointer (some ⟨q + 2, 0, none⟩)]) (by simp) (by simp [go_sem]) ?_; refine (Kcl w8 hpn H0.out H1.out H2.out HN.out HQ.out _ _).mono ?_; rintro e u' w'' ⟨rfl, rfl, k1, k2, k3⟩; refine Kdz k1 k2 k3 HNONE.out ?_ ?_ HQ.out
  all_goals rfl
 | true =>
  simp only [Bool.not_true] at hneq; have hgf := of_decide_eq_true HDQ.out; rw [← HG2.out] at hgf
  have hfit : fitB ⟨(mv : Int), av, bv, SS⟩ = true := by
   cases hf : fitB ⟨(mv : Int), av, bv, SS⟩ with
   | true => rfl
   | false =>
    unfold Kby at hgf; rw [hf] at hgf; have h1 : ([] : List UInt8) = F0.data.toList := congrArg Fil.mt hgf; have h2 := HR0.out; rw [← h1] at h2; cases h2
  unfold Kby at hgf; rw [if_pos hfit] at hgf
  have hrs : r = some ⟨(mv : Int), av, bv, SS⟩ := by
   rw [HRP.out]; exact if_pos ⟨hfit, hgf⟩
  have HRS := Jh hrs; clear hgf hfit hrs hpn; go_wp2_with fail
  refine leaves_cons (f := 74) (args := #[.pointer (some ⟨q, 0, none⟩), .pointer (some ⟨q + 1, 0, none⟩), .pointer (some ⟨q + 2, 0, none⟩)]) (by simp) (by simp [go_sem]) ?_; refine (Kvq _ _ _ _).mono ?_; rintro e u' w'' ⟨rfl, rfl, rfl⟩; have s0 : w8.setCell ⟨q + 1, 0, none⟩ (.int .i64 (mv : Int)) = w8 := Key HCB8.out (i := 0) rfl; have s1 : w8.setCell ⟨q + 1, 1, none⟩ (.int .i64 av) = w8 := Key HCB8.out (i := 1) rfl; have s2 : w8.setCell ⟨q + 1, 2, none⟩ (.int .i64 bv) = w8 := Key HCB8.out (i := 2) rfl; have s3 : w8.setCell ⟨q + 1, 3, none⟩ (.slice A nn cp) = w8 := Key HCB8.out (i := 3) rfl; have s4 : w8.setCell ⟨q + 2, 0, none⟩ (.int .i64 0) = w8 := Key HPN8.out.e (i := 0) rfl; rw [s0, s1, s2, s3, s4]; refine ⟨_, pres _ HCB8.out HPN8.out.e (by rfl) (by rfl), ?_, by rw [HQ.out]; exact HPN8.out.bl⟩; rw [HRS.out]; exact ⟨⟨A, nn, cp⟩, rfl, HSO8.out, HRD2.out⟩
end
end Go.Proofs.YtdoiekknhnbepaaGreatDoor
