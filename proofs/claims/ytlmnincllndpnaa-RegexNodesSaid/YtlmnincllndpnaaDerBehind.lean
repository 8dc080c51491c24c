/- The walk of behind. -/
import Derived.Test.YtlmnincllndpnaaDerWalksD
namespace Go.Proofs.Ytlmnincllndpnaa
open Go.RowKit
open Go.ChangeMaps (setBlock)
open Go.MapKept (Stamped stamped_empty)
attribute [local go_sem ↓] Go.wp_at_zero Go.wp_at_succ
attribute [local go_sem] Later.cell Later.frozen

/-- The map's keys are just the rests D. -/
def NowIs (w : World) (m : Nat) (D : List (List Tr)) : Prop := OutIs w m D (· ∈ D)
theorem out_new (w : World) (S : List Tr → Prop) : OutIs (w.alloc (.map #[] 0)) w.heap.size [] S :=
  ⟨#[], 0, heap_alloc_new w _, stamped_empty 0, by simp, by simp, by simp⟩
theorem out_newAt {w : World} {m : Nat} (h : m = w.heap.size) (S : List Tr → Prop) : OutIs (w.alloc (.map #[] 0)) m [] S := by subst h; exact out_new w S
theorem len_map {w : World} {m : Nat} {es : Array MapEntry} {clock : Nat} (h : w.heap[m]? = some (.map es clock)) (t : TypeId) : (Builtin.len_ #[60] t #[.map (some m)]).run Try.prog w = .ok (.int .i64 es.size) w := by
  simp [Builtin.len_, run_underlying Try.underlying60, MapKept.run_getObj_map h, goInt]

set_option maxHeartbeats 400000 in
theorem behind_nil (s : ByteArray) (w : World) :
    Calls Try.prog 29 #[.pointer none, .string s] w fun e w' => e = .returned (.map (some w.heap.size)) ∧ NowIs w' w.heap.size [] ∧ Below w.heap.size w w' := by
  have hmm := @run_makeMap Try.prog
  go_enter Try.func29, Try.ntmps29
  go_wp2_with fail
  go_ret
  exact ⟨rfl, out_new w _, by go_grown⟩

/-- While behind goes on: the run, the map now. -/
structure BMem (w wr : World) (R M1 M2 m : Nat) (D : List (List Tr)) : Prop where
  mem : DMem wr R M1 M2
  now : NowIs wr m D
  below : Below w.heap.size w wr
  ne1 : m ≠ M1
  ne2 : m ≠ M2
  lo1 : w.heap.size ≤ M1
  lo2 : w.heap.size ≤ M2
  lo : w.heap.size ≤ m

/-- While the rests are gone through: the map out at block out, the iterator at block it, over the map of block m. -/
structure RMem (w wo wr : World) (R M1 M2 m out it : Nat) (D : List (List Tr)) (es : Array MapEntry) (clock : Nat) (b : UInt8) (seen : Array Nat) (A : List (List Tr)) : Prop where
  mem : DMem wr R M1 M2
  outIs : OutIs wr out A (· ∈ stepD D b)
  map : wr.heap[m]? = some (.map es clock)
  iter : wr.heap[it]? = some (.mapIter (some m) clock seen clock)
  below : Below w.heap.size w wr
  keeps : Keeps wo wr
theorem keeps_iter {w : World} {it : Nat} {m : Option Nat} {a b : Nat} {seen : Array Nat} (h : w.heap[it]? = some (.mapIter m a seen b)) (o : Obj) : Keeps w (setBlock w it o) := by
  intro g t cs hb
  refine (setBlock_other w o ?_).trans hb
  rintro rfl
  unfold Blk at hb
  rw [h] at hb
  cases hb
theorem RMem.next {w wo wr w1 : World} {R M1 M2 m out it : Nat} {D : List (List Tr)} {es : Array MapEntry} {clock : Nat} {b : UInt8} {seen seen' : Array Nat} {A : List (List Tr)} (h : RMem w wo wr R M1 M2 m out it D es clock b seen A)
    (hw : w1 = wr ∨ w1 = wr.drew) (n1 : it ≠ M1) (n2 : it ≠ M2) (n3 : it ≠ m) (n4 : it ≠ out) (hlo : w.heap.size ≤ it) : RMem w wo (setBlock w1 it (.mapIter (some m) clock seen' clock)) R M1 M2 m out it D es clock b seen' A := by
  have key : ∀ wx : World, RMem w wo wx R M1 M2 m out it D es clock b seen A → RMem w wo (setBlock wx it (.mapIter (some m) clock seen' clock)) R M1 M2 m out it D es clock b seen' A := by
    intro wx h
    have hk := keeps_iter h.iter (.mapIter (some m) clock seen' clock)
    have hkp : Kept wx.heap.size [it] wx (setBlock wx it (.mapIter (some m) clock seen' clock)) := (Kept.refl _ _ _).setBlock (.inl (by simp)) _
    exact ⟨h.mem.stay hkp hk (by simpa using n1.symm) (by simpa using n2.symm), h.outIs.stay hkp hk (by simpa using n4.symm), (setBlock_other _ _ n3.symm).trans h.map, setBlock_same h.iter,
      h.below.trans ((hkp.into (B' := w.heap.size) h.below.size (fun _ h => h)).below (by simpa using hlo)), h.keeps.trans hk⟩
  rcases hw with rfl | rfl
  · exact key _ h
  · exact key _ ⟨h.mem.below ((Below.refl _ _).drew), h.outIs.below ((Below.refl _ _).drew), h.map, h.iter, h.below.drew, h.keeps⟩
theorem RMem.drew {w wo wr : World} {R M1 M2 m out it : Nat} {D : List (List Tr)} {es : Array MapEntry} {clock : Nat} {b : UInt8} {seen : Array Nat} {A : List (List Tr)} (h : RMem w wo wr R M1 M2 m out it D es clock b seen A) : RMem w wo wr.drew R M1 M2 m out it D es clock b seen A :=
  ⟨h.mem.below ((Below.refl _ _).drew), h.outIs.below ((Below.refl _ _).drew), h.map, h.iter, h.below.drew, h.keeps⟩
/-- Behind a derive. -/
theorem RMem.derived {w wo wr w1 : World} {R M1 M2 m out it : Nat} {D : List (List Tr)} {es : Array MapEntry} {clock : Nat} {b : UInt8} {seen : Array Nat} {A A' : List (List Tr)} (h : RMem w wo wr R M1 M2 m out it D es clock b seen A)
    (hd : DMem w1 R M1 M2) (ho : OutIs w1 out A' (· ∈ stepD D b)) (hk : Kept wr.heap.size [M1, M2, out] wr w1) (n1 : m ∉ [M1, M2, out]) (n2 : it ∉ [M1, M2, out]) (hlo : ∀ k ∈ [M1, M2, out], w.heap.size ≤ k) : RMem w wo w1 R M1 M2 m out it D es clock b seen A' :=
  ⟨hd, ho, (hk.block m (Array.getElem?_eq_some_iff.1 h.map).1 n1).trans h.map, (hk.block it (Array.getElem?_eq_some_iff.1 h.iter).1 n2).trans h.iter,
    h.below.trans ((hk.into (B' := w.heap.size) h.below.size (fun _ h => h)).below hlo), h.keeps.trans (h.mem.keeps h.outIs hk)⟩

set_option maxRecDepth 100000 in
set_option maxHeartbeats 2000000 in
theorem behind_calls (t : Tr) (p : Nat) (s : ByteArray) (w : World) (ht : TreeIs w t p) (hsz : s.size ≤ 9223372036854775807) :
    Calls Try.prog 29 #[.pointer (some ⟨p, 0, none⟩), .string s] w fun e w' => ∃ m, e = .returned (.map (some m)) ∧ NowIs w' m (after [[t]] s.data.toList) ∧ Below w.heap.size w w' ∧ w.heap.size ≤ m := by
  have hmm := @run_makeMap Try.prog
  go_enter Try.func29, Try.ntmps29
  go_wp2_with fail
  have hb0 : Below w.heap.size w ((((w.alloc (.map #[] 0)).alloc (.map #[] 0)).alloc (.map #[] 0)).alloc (.cells #[.map (some (w.heap.size + 1)), .map (some (w.heap.size + 1 + 1))] 81)) := by go_grown
  have hd0 : DMem ((((w.alloc (.map #[] 0)).alloc (.map #[] 0)).alloc (.map #[] 0)).alloc (.cells #[.map (some (w.heap.size + 1)), .map (some (w.heap.size + 1 + 1))] 81)) (w.heap.size + 1 + 1 + 1) (w.heap.size + 1) (w.heap.size + 1 + 1) := by
    refine ⟨Blk.newAt (by simp), ⟨#[], 0, ?_, by simp⟩, ⟨#[], 0, ?_, by simp⟩, by omega⟩
    · rw [heap_alloc_old _ _ (by simp), heap_alloc_old _ _ (by simp)]
      have := heap_alloc_new (w.alloc (.map #[] 0)) (.map #[] 0)
      simpa using this
    · rw [heap_alloc_old _ _ (by simp)]
      have := heap_alloc_new ((w.alloc (.map #[] 0)).alloc (.map #[] 0)) (.map #[] 0)
      simpa using this
  have ho0 : OutIs ((((w.alloc (.map #[] 0)).alloc (.map #[] 0)).alloc (.map #[] 0)).alloc (.cells #[.map (some (w.heap.size + 1)), .map (some (w.heap.size + 1 + 1))] 81)) w.heap.size [] (· ∈ [[t]]) :=
    (out_new w _).below (((((Below.refl _ _).alloc (Nat.le_refl _) _)).alloc (by simp) _).alloc (by simp) _)
  obtain ⟨W0, hW0⟩ : ∃ W0, (((w.alloc (.map #[] 0)).alloc (.map #[] 0)).alloc (.map #[] 0)).alloc (.cells #[.map (some (w.heap.size + 1)), .map (some (w.heap.size + 1 + 1))] 81) = W0 := ⟨_, rfl⟩
  rw [hW0] at hb0 hd0 ho0 ⊢
  clear hW0
  obtain ⟨M1, hM1⟩ : ∃ x, w.heap.size + 1 = x := ⟨_, rfl⟩
  rw [hM1] at hd0 ⊢
  obtain ⟨M2, hM2⟩ : ∃ x, M1 + 1 = x := ⟨_, rfl⟩
  rw [hM2] at hd0 ⊢
  obtain ⟨R, hR⟩ : ∃ x, M2 + 1 = x := ⟨_, rfl⟩
  rw [hR] at hd0 ⊢
  obtain ⟨m, hm⟩ : ∃ x, w.heap.size = x := ⟨_, rfl⟩
  rw [hm] at ho0
  have l1 : w.heap.size < M1 := by omega
  have l2 : M1 < M2 := by omega
  have HM := Lib.hid hm
  have ht0 := ht.keep (below_keeps hb0)
  simp only [hm]
  clear hM1 hM2 hR hm
  refine (rest_calls t [] p none R M1 M2 W0 hd0 ht0 rfl).mono ?_
  rintro e w1 ⟨q, rfl, hq, hd1, hk1⟩
  have hs1 := hd0.keeps1 hk1
  have ho1 := ho0.stay hk1 hs1 (by have := HM.out; simp; omega)
  obtain ⟨n, hl, hu⟩ := lay_out ho1 hq (by simp)
  obtain ⟨w2, hu2, ho2, hk2⟩ := hu (wrap64 (n + 1))
  have hs2 := hk2.keeps (fun x hx => by simp at hx; subst hx; exact ho1.isMap)
  have hd2 := hd1.stay hk2 hs2 (by have := HM.out; simp; omega) (by have := HM.out; simp; omega)
  have hB : BMem w w2 R M1 M2 m [[t]] := by
    have e := HM.out
    refine ⟨hd2, ho2, ?_, by omega, by omega, by omega, by omega, by omega⟩
    have k1 : Below w.heap.size w w1 := hb0.trans ((hk1.into (B' := w.heap.size) hb0.size (fun _ h => h)).below (by simp; omega))
    exact k1.trans ((hk2.into (B' := w.heap.size) k1.size (fun _ h => h)).below (by simp; omega))
  clear hu hd1 hk1 hs1 ho1 ho2 hk2 hs2 hd2 hd0 ho0 ht0 hb0 hq
  go_wp2_with fail
  clear hl hu2 HM ht
  go_loopg [5, 7] s.size (fun g s5 s7 wr => ∃ k m : Nat, k + g = s.size ∧ s5 = .map (some m) ∧ s7 = .int .i64 (k : Nat) ∧ BMem w wr R M1 M2 m (after [[t]] (s.data.toList.take k)))
  case atStart => exact ⟨0, m, by omega, rfl, rfl, hB⟩
  case round =>
    clear hB
    obtain ⟨k, m, hkg, rfl, rfl, hB⟩ := hrel
    obtain ⟨D, hD⟩ : ∃ D, after [[t]] (s.data.toList.take k) = D := ⟨_, rfl⟩
    rw [hD] at hB
    have HD := Lib.hid hD
    have HKG := Lib.hid hkg
    obtain ⟨es, clock, hm, hst, hv, hsnd, hcpl⟩ := hB.now
    have hlen := len_map hm 3
    clear hD hkg
    by_cases hk : k < s.size
    · by_cases hes : 0 < es.size
      · obtain ⟨wo, rfl⟩ : ∃ wo, wo = wr := ⟨_, rfl⟩
        obtain ⟨b, hb⟩ : ∃ b, s[k] = b := ⟨_, rfl⟩
        have HB := Lib.hid hb
        clear hb
        have hml : m < wo.heap.size := (Array.getElem?_eq_some_iff.1 hm).1
        have hl1 : M1 < wo.heap.size := by obtain ⟨_, _, h, _⟩ := hB.mem.m1; exact (Array.getElem?_eq_some_iff.1 h).1
        have hl2 : M2 < wo.heap.size := by obtain ⟨_, _, h, _⟩ := hB.mem.m2; exact (Array.getElem?_eq_some_iff.1 h).1
        have hBe := hB.below.size
        have q1 := hB.lo1
        have q2 := hB.lo2
        have q3 := hB.lo
        have q4 := hB.ne1
        have q5 := hB.ne2
        have hrange := run_range_map (P := Try.prog) (wo.alloc (.map #[] 0)) 60 62 3 m es clock Try.underlying60 ((heap_alloc_old wo _ hml).trans hm)
        have hbn : Below wo.heap.size wo ((wo.alloc (.map #[] 0)).alloc (.mapIter (some m) clock #[] clock)) := by go_grown
        have hR0 : RMem w wo ((wo.alloc (.map #[] 0)).alloc (.mapIter (some m) clock #[] clock)) R M1 M2 m wo.heap.size (wo.heap.size + 1) D es clock b #[] [] :=
          ⟨hB.mem.below hbn, ((out_new wo _).below ((Below.refl _ _).alloc (Nat.le_refl _) _)), (hbn.block m hml).trans hm, by have := heap_alloc_new (wo.alloc (.map #[] 0)) (.mapIter (some m) clock #[] clock); simpa using this, hB.below.trans (hbn.mono hBe), below_keeps hbn⟩
        obtain ⟨out, hout⟩ : ∃ x, wo.heap.size = x := ⟨_, rfl⟩
        have HOUT := Lib.hid hout
        go_upto_block 2 with fail
        rw [hout] at hR0
        obtain ⟨wi, hwi⟩ : ∃ wi, (wo.alloc (.map #[] 0)).alloc (.mapIter (some m) clock #[] clock) = wi := ⟨_, rfl⟩
        rw [hwi] at hR0 ⊢
        rw [hout] at hml hl1 hl2 hBe
        clear hwi hout hrange hlen hbn hes
        have HSN := Lib.hid hsnd
        have HCP := Lib.hid hcpl
        have HST := Lib.hid hst
        clear hsnd hcpl hst hv hm
        go_cut [] (fun wz => DMem wz R M1 M2 ∧ NowIs wz out (stepD D b) ∧ Below w.heap.size w wz)
        case first =>
          go_wp2_with fail
          go_loopg [] es.size (fun g wr => ∃ seen A, (leftOf es seen).size ≤ g ∧ RMem w wo wr R M1 M2 m out (out + 1) D es clock b seen A ∧ ∀ e ∈ es.toList, seen.contains e.born = true → ∀ c, ChainIs wo c e.key → ∀ k ∈ Dc c b, k ∈ A)
          case atStart => exact ⟨#[], [], by unfold leftOf; exact Array.size_filter_le, hR0, by simp⟩
          case round =>
            obtain ⟨seen, A, hg, hM, hcp⟩ := hrel
            have HCM := Lib.hid hcp
            clear hcp hR0
            rcases run_next_at (P := Try.prog) wr 0 (out + 1) m clock clock seen es clock hM.iter hM.map HST.out.1 (Nat.le_refl _) with ⟨h0, hrun⟩ | ⟨e, he, w1, hw1, hrun⟩
            · have H0 := Lib.hid h0
              clear h0
              go_wp2_with fail
              go_meet
              refine ⟨hM.mem, hM.outIs.less ?_, hM.below⟩
              intro c hc
              obtain ⟨c0, h1, h2⟩ := List.mem_flatMap.1 hc
              obtain ⟨e, h3, h4⟩ := HCP.out c0 h1
              exact HCM.out e h3 (all_seen es seen H0.out e h3) c0 h4 c h2
            · have heL := mem_left he
              have hshr := left_shrinks es seen e he
              have hM1 := hM.next (w1 := w1) (seen' := seen.push e.born) hw1 (by omega) (by omega) (by omega) (by omega) (by omega)
              have hentry := run_entry_at (P := Try.prog) _ (out + 1) m clock seen es clock e hM1.iter hM1.map heL.1 HST.out.2.1
              obtain ⟨c0, hc0, hch⟩ := HSN.out e heL.1
              obtain ⟨o, ho⟩ := hch.ptr.form
              obtain ⟨vl, hvl⟩ : ∃ v, e.val = v := ⟨_, rfl⟩
              rw [ho] at hch
              rw [ho, hvl] at hrun hentry
              have HO := Lib.hid ho
              have HSH := Lib.hid hshr
              have HEL := Lib.hid heL.1
              obtain ⟨wq, hwq⟩ : ∃ wq, setBlock w1 (out + 1) (.mapIter (some m) clock (seen.push e.born) clock) = wq := ⟨_, rfl⟩
              rw [hwq] at hM1 hrun hentry
              clear hwq hw1 hvl heL hshr he ho hM
              go_upto_block 4 with fail
              clear hrun hentry
              have hend : ∀ wz, RMem w wo wz R M1 M2 m out (out + 1) D es clock b (seen.push e.born) (A ++ Dc c0 b) → ∃ seen' A', (leftOf es seen').size ≤ (leftOf es (seen.push e.born)).size ∧ RMem w wo wz R M1 M2 m out (out + 1) D es clock b seen' A' ∧ ∀ e ∈ es.toList, seen'.contains e.born = true → ∀ c, ChainIs wo c e.key → ∀ k ∈ Dc c b, k ∈ A' := by
                intro wz hfin
                refine ⟨seen.push e.born, A ++ Dc c0 b, Nat.le_refl _, hfin, fun e' he' hs c hc k hk => ?_⟩
                rw [contains_push, Bool.or_eq_true] at hs
                rcases hs with hs | hs
                · exact List.mem_append.2 (.inl (HCM.out e' he' hs c hc k hk))
                · have hbe : e' = e := born_inj HST.out.2.1 he' HEL.out (by simpa using hs)
                  subst hbe
                  rw [HO.out] at hc
                  rw [ChainIs.one hc hch] at hk
                  exact List.mem_append.2 (.inr hk)
              have HEND := Lib.hid hend
              clear hend
              go_wp2_with fail
              obtain ⟨go, hgo⟩ : ∃ go, go = gk := ⟨_, rfl⟩
              go_loopg [9] c0.length (fun g s9 wl => ∃ c' o' done, s9 = .pointer o' ∧ c'.length ≤ g ∧ ChainIs wl c' (.pointer o') ∧ done ++ Dc c' b = A ++ Dc c0 b ∧ (∀ k ∈ Dc c' b, k ∈ stepD D b) ∧ RMem w wo wl R M1 M2 m out (out + 1) D es clock b (seen.push e.born) done)
              case atStart => exact ⟨c0, o, A, rfl, Nat.le_refl _, hch.keep hM1.keeps, rfl, fun k hk => List.mem_flatMap.2 ⟨c0, hc0, hk⟩, hM1⟩
              case round =>
                clear hM1
                obtain ⟨c', o', done, rfl, hlen, hc', hdn, hin, hL⟩ := hrel
                have HDN := Lib.hid hdn
                have HIN := Lib.hid hin
                clear hdn hin
                match c', hc', HDN, HIN, hlen with
                | [], hc', HDN, HIN, hlen =>
                  obtain rfl : o' = none := by have h : Value.pointer o' = .pointer none := hc'; injection h
                  go_wp2_with fail
                  go_roundg (leftOf es (seen.push e.born)).size
                  case measure => have := HSH.out; omega
                  case rel =>
                    have e := HDN.out
                    rw [Dc, List.append_nil] at e
                    rw [e] at hL
                    exact HEND.out _ hL
                | t' :: c'', hc', HDN, HIN, hlen =>
                  obtain ⟨q, p', v', hq, hbq, htp, hcc⟩ := hc'
                  obtain ⟨o'', rfl⟩ := hcc.ptr.form
                  obtain rfl : o' = some ⟨q, 0, none⟩ := by injection hq
                  clear hq
                  have hLd := hL.drew
                  have htp0 : TreeIs wr.drew t' p' := htp.keep (below_keeps ((Below.refl _ _).drew))
                  have hcc0 : ChainIs wr.drew c'' (.pointer o'') := hcc.keep (below_keeps ((Below.refl _ _).drew))
                  have hbq0 : Blk wr.drew q 64 #[.pointer (some ⟨p', 0, none⟩), .pointer o''] := hbq
                  have hSd : ∀ k ∈ Dv t' c'' b, k ∈ stepD D b := fun k hk => HIN.out k (by rw [Dc]; exact List.mem_append.2 (.inl hk))
                  have q0 : _ = some (Value.pointer (some ⟨p', 0, none⟩)) := hbq.cell 0
                  have q1' : _ = some (Value.pointer o'') := hbq.cell 1
                  have nA : out ≠ M1 := by omega
                  have nB : out ≠ M2 := by omega
                  have hcall := derive_calls t' c'' p' o'' R M1 M2 out b done (· ∈ stepD D b) wr.drew hLd.mem htp0 hcc0 hLd.outIs nA nB hSd
                  rw [← HB.out] at hcall
                  have HCALL := Lib.hid hcall
                  clear hcall
                  go_wp2_with fail
                  go_region_held3 (fun w' => w'.cell? ⟨q, 0, none⟩ = some (.pointer (some ⟨p', 0, none⟩)) ∧ w'.cell? ⟨q, 1, none⟩ = some (.pointer o'')) (first | (exact ⟨(hs2 _ _ _ hbq0).cell 0, (hs2 _ _ _ hbq0).cell 1⟩) | go_keep) (first | (go_at_call 39; refine HCALL.out.mono ?_; rintro e w2 ⟨rfl, hd2, ho2, hk2⟩; have hs2 := hLd.mem.keeps hLd.outIs hk2))
                  rw [HB.out] at ho2
                  have hL2 := hLd.derived hd2 ho2 hk2 (by simp; omega) (by simp; omega) (by simp; omega)
                  have hbq2 := hs2 _ _ _ hbq0
                  have htp2 := htp0.keep hs2
                  have hcc2 := hcc0.keep hs2
                  clear q0 q1' HCALL
                  have q0 : _ = some (Value.pointer (some ⟨p', 0, none⟩)) := hbq2.cell 0
                  have q1' : _ = some (Value.pointer o'') := hbq2.cell 1
                  obtain ⟨z, hz⟩ : ∃ z, null t' = z := ⟨_, rfl⟩
                  have hnul := nullable_calls t' p' w2 htp2
                  rw [hz] at hnul
                  have HN := Lib.hid hnul
                  have HZ := Lib.hid hz
                  clear hnul hz hc' hL hLd htp0 hcc0 hbq0 htp hcc hbq hd2 ho2 hk2 hs2
                  go_wp2_with fail
                  refine HN.out.mono ?_
                  rintro e' w3 ⟨rfl, rfl⟩
                  cases z with
                  | false =>
                    go_wp2_with fail
                    go_roundg (leftOf es (seen.push e.born)).size
                    case measure => have := HSH.out; omega
                    case rel =>
                      have e := HDN.out
                      rw [Dc, HZ.out] at e
                      simp only [Bool.false_eq_true, if_false, List.append_nil] at e
                      rw [e] at hL2
                      exact HEND.out _ hL2
                  | true =>
                    go_wp2_with fail
                    go_roundg c''.length
                    case measure => simp at hlen; omega
                    case rel =>
                      have e := HDN.out
                      rw [Dc, HZ.out, if_pos rfl, ← List.append_assoc] at e
                      exact ⟨c'', o'', _, rfl, Nat.le_refl _, hcc2, e, fun k hk => HIN.out k (by rw [Dc, HZ.out, if_pos rfl]; exact List.mem_append.2 (.inr hk)), hL2⟩
        case rest =>
          obtain ⟨hd1, ho1, hb1⟩ := hcut
          go_wp2_with fail
          go_roundg (gk - 1)
          case measure => have := HKG.out; omega
          case rel =>
            refine ⟨k + 1, out, by have := HKG.out; omega, rfl, by go_num, hd1, ?_, hb1, by omega, by omega, q1, q2, by omega⟩
            have e : after [[t]] (s.data.toList.take (k + 1)) = stepD D b := by
              rw [List.take_succ_eq_append_getElem (by have : s.data.toList.length = s.size := rfl; omega), after_snoc, HD.out, ← HB.out]
              rfl
            rw [e]
            exact ho1
      · have he0 : es.size = 0 := by omega
        have HE := Lib.hid he0
        have hd0 : D = [] := by
          cases D with
          | nil => rfl
          | cons c D =>
            obtain ⟨e, he, _⟩ := hcpl c (by simp)
            have : es = #[] := Array.eq_empty_of_size_eq_zero he0
            rw [this] at he
            simp at he
        have HD0 := Lib.hid hd0
        rw [he0] at hlen
        clear he0 hd0 hes hv hsnd hcpl hst hm
        go_wp2_with fail
        go_ret
        refine ⟨m, rfl, ?_, hB.below, hB.lo⟩
        have e : after [[t]] s.data.toList = D := by
          rw [← List.take_append_drop k s.data.toList, after_append, HD.out, HD0.out, after_nil]
        rw [e]
        exact hB.now
    · clear hv hsnd hcpl hst hm hlen
      go_wp2_with fail
      go_ret
      refine ⟨m, rfl, ?_, hB.below, hB.lo⟩
      have e : after [[t]] s.data.toList = D := by
        rw [← HD.out, List.take_of_length_le]
        have : s.data.toList.length = s.size := rfl
        omega
      rw [e]
      exact hB.now
end Go.Proofs.Ytlmnincllndpnaa
