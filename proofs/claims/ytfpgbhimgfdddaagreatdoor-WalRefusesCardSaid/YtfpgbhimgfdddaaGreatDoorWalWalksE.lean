/- The walks of layer 16 (wal): recover, where all segments but the last one read without an error. -/
import Derived.Test.YtfpgbhimgfdddaaGreatDoorWalWalksD
set_option linter.unusedVariables false
set_option linter.unusedSimpArgs false
namespace Go.Proofs.YtfpgbhimgfdddaaGreatDoor
open Go.RowKit Go.Shelf Go.Sort
attribute [local go_sem ↓] Go.wp_at_zero Go.wp_at_succ
attribute [local go_sem] Later.cell Later.frozen

section
variable {B0 M p g : Nat} {a : Nat → Addr} {R R' : Nat → Nat} {d : Ds} {w w' : World} {D : ByteArray} {size last used : Int}
theorem wpList_append_knownW {P : Program} {w w' : World} {ops : Array Oper} {rest : List Oper} {o : Oper} {a : Act} {Q : Exit → Act → World → Prop} (hgd : o.guard = none) (s x : Operand) (t : TypeId)
    (ho : o.op = .call { callee := .builtin .append, args := #[s, x], argTypes := #[t, t] }) {v u v' : Value} (hs : a.eval s = v) (hx : a.eval x = u)
    (hrun : (Builtin.append_ #[t, t] o.type #[v, u]).run P w = .ok v' w') (h : wpList P ops Q rest (a.put o.dst v') w') : wpList P ops Q (o :: rest) a w := by
  refine wpList_plain hgd fun K hK => ?_
  unfold Oper.wp
  simp [execOp, ho, resolve, invoke, builtin, hs, hx, hrun, Result.andThen]
  exact hK _ _ h
theorem txtV_oneW (l : List Txt) : ∀ u ∈ l.map txtV, u.oneCell' = true := by
  intro u hu
  obtain ⟨x, _, rfl⟩ := List.mem_map.1 hu
  rfl
/-- append(v, l...) where v is one's own. -/
theorem run_textsB (v : Value) (k : Nat) (xs : List Value) (B : Nat) (Ad : Option Addr) (n c : Nat) (l : List Txt) (w : World) (hown : w.ownsRow B 9 1 v k xs) (hB : B ≤ w.heap.size) (h : Strs w Ad n l) (hA : Ad = none → c = 0) (hn : (k + n) * 16 ≤ 140737488351232) :
    ∃ v' w', (Builtin.append_ #[78, 78] 78 #[v, .slice Ad n c]).run Tryz.prog w = .ok v' w' ∧ w'.ownsRow B 9 1 v' (k + n) (xs ++ l.map txtV) ∧ w.grownBy w' v.ownBlock ∧ (v'.ownBlock = v.ownBlock ∨ v'.ownBlock = some w.heap.size) := by
  obtain ⟨i0, hi0, hz0, hz1, hz2⟩ := info_parts info_strW
  have hl := h.len
  cases Ad with
  | none =>
    have h0 : n = 0 := by
      rcases Nat.eq_zero_or_pos n with h0 | h0
      · exact h0
      · obtain ⟨b, off, e, _⟩ := h.2 h0; cases e
    subst h0
    obtain rfl := hA rfl
    obtain rfl : l = [] := List.eq_nil_of_length_eq_zero hl
    exact ⟨v, w, run_append_owned_none (P := Tryz.prog) (w := w) B 78 78 9 i0 1 Tryz.underlying78 hi0 v k xs hown, by simpa using hown, ⟨rfl, rfl, rfl, Nat.le_refl _, fun _ _ _ => rfl⟩, .inl rfl⟩
  | some x =>
    obtain ⟨v', w', h1, h2, h3, _, h5⟩ := run_append_own_at (P := Tryz.prog) (w := w) B 78 78 9 i0 (.string ⟨#[]⟩) 1 16 Tryz.underlying78 hi0 hz0 hz1 hz2 rfl (by decide) v k xs hown x n c (l.map txtV) (by rw [List.length_map, hl, Nat.mul_one]) h.cells (txtV_oneW l) (by unfold maxLen; omega) (by omega) hB
    exact ⟨v', w', h1, h2, h3, h5⟩
/-- What mends a last segment that is spoilt. -/
def mendD (D : Txt) (d : Ds) (n : Nat) (r : List Txt × Nat × Nat) : Ds := if r.2.2 = 0 then d else (syncD (cutD d (wP D (n : Int)) (r.2.1 : Int)).2 (wP D (n : Int))).2
theorem Nats.outg {X : Option Addr} {n : Nat} {l : List Nat} (h : Nats w X n l) (ho : OutG g R R' w w') (h0 : ∀ x, X = some x → R x.block = 0 ∧ x.block ≠ g) : Nats w' X n l :=
  ⟨h.1, fun hn => by
    obtain ⟨b, off, e, hb, hc⟩ := h.2 hn
    have h1 := h0 _ e
    exact ⟨b, off, e, Nat.lt_of_lt_of_le hb ho.size, fun i x hx j v hv => (World.cell?_of_block (w := w) (ho.block b hb h1.1 h1.2)).trans (hc i x hx j v hv)⟩⟩
theorem Strs.outw {X : Option Addr} {n : Nat} {l : List Txt} (h : Strs w X n l) (ho : Out R R' w w') (h0 : ∀ x, X = some x → R x.block = 0) : Strs w' X n l :=
  ⟨h.1, fun hn => by
    obtain ⟨b, off, e, hb, hc⟩ := h.2 hn
    have h1 := h0 _ e
    exact ⟨b, off, e, Nat.lt_of_lt_of_le hb ho.size, fun i x hx j v hv => (World.cell?_of_block (w := w) (ho.block b hb h1)).trans (hc i x hx j v hv)⟩⟩
theorem Dk.grow (h : Dk B0 M w R p d) {v : Option Nat} (hg : w.grownBy w' v) (hv : ∀ b, v = some b → R b = 0) : Dk B0 M w' R p d := by
  obtain ⟨A, h1, h2⟩ := h.ex
  exact ⟨⟨A, h1.same (fun j hj => ⟨hg.block j (h1.inw j hj) (fun e => hj (hv j e.symm)), rfl⟩) (h1.inw.mono hg.size) h1.low, h2⟩, h.wf⟩
theorem Nats.at_ {X : Option Addr} {n : Nat} {l : List Nat} (h : Nats w X n l) {i y : Nat} (hy : l[i]? = some y) : ∃ b off, X = some ⟨b, off, none⟩ ∧ b < w.heap.size ∧ w.cell? ⟨b, off + i, none⟩ = some (natI y) := by
  have hi : i < n := by rw [← h.1]; exact (List.getElem?_eq_some_iff.1 hy).1
  obtain ⟨b, off, e, hb, hc⟩ := h.2 (by omega)
  have := hc i y hy 0 (natI y) rfl
  exact ⟨b, off, e, hb, by simpa using this⟩
set_option maxRecDepth 100000 in
set_option maxHeartbeats 8000000 in
theorem recover_good (hDs : D.size ≤ 1000) (hDn : nameB D.data.toList = true) (from_ : Int) (w : World) (hA : WAt B0 a M p g R D size last used d w) (hM : M + 2 ≤ 536870912) (hC : SCon B0 a)
    (le : List En) (hl : listD d D.data.toList = (le, 0)) (ini : List Nat) (nl : Nat) (hns : entSegs le (ini ++ [nl])) (hr : ∀ n ∈ ini ++ [nl], 1 ≤ n ∧ n ≤ 99999999) (hz : (ini ++ [nl]).length ≤ 99999999)
    (C : Nat → Txt) (hall : ∀ n ∈ ini ++ [nl], allD d (wP D.data.toList (n : Int)) = (C n, 0)) (hlen : ∀ n ∈ ini ++ [nl], (C n).length ≤ 67108864) (htot : (((ini ++ [nl]).flatMap fun n => (rdT (C n)).1).length ≤ 1073741824))
    (hfrom : ∀ n ∈ ini ++ [nl], from_ ≤ (n : Int)) (hclean : ∀ n ∈ ini, (rdT (C n)).2.2 = 0)
    (hcut : (rdT (C nl)).2.2 ≠ 0 → (cutD d (wP D.data.toList (nl : Int)) ((rdT (C nl)).2.1 : Int)).1 = 0 ∧ (syncD (cutD d (wP D.data.toList (nl : Int)) ((rdT (C nl)).2.1 : Int)).2 (wP D.data.toList (nl : Int))).1 = 0) :
    Calls Tryz.prog 88 #[.pointer (some ⟨g, 0, none⟩), .int .i64 from_] w fun e w' => ∃ X c n R', e = .returned (.tuple #[.slice X n c, .nilIface]) ∧ Strs w' X n ((ini ++ [nl]).flatMap fun n => (rdT (C n)).1) ∧
      (∀ x, X = some x → w.heap.size ≤ x.block ∧ R' x.block = 0) ∧ WAt B0 a (M + 2) p g R' D size (nl : Int) ((rdT (C nl)).2.1 : Int) (mendD D.data.toList d nl (rdT (C nl))) w' ∧ OutG g R R' w w' := by
  obtain ⟨ns, hnse⟩ : ∃ ns, ini ++ [nl] = ns := ⟨_, rfl⟩
  have hnl : ns.length = ini.length + 1 := by rw [← hnse]; simp
  have hlast : ns[ini.length]? = some nl := by rw [← hnse]; simp
  rw [hnse] at hns hr hz hall hlen htot hfrom ⊢
  have hcln : ∀ i n, ns[i]? = some n → i + 1 < ns.length → (rdT (C n)).2.2 = 0 := fun i n hi h => by
    refine hclean n ?_
    rw [← hnse, List.getElem?_append_left (by omega)] at hi
    exact List.mem_of_getElem? hi
  have HSEG := Lib.hid (segments_calls (D := D) hDs hDn w hA (by omega) hC le ns hl hns hr hz)
  have HA := Lib.hid hA
  have HC := Lib.hid hC
  have HNS := Lib.hid (⟨hnl, hlast⟩ : _ ∧ _)
  have HP := Lib.hid (⟨hr, hall, hlen, hfrom⟩ : _ ∧ _ ∧ _ ∧ _)
  have HTOT := Lib.hid htot
  have HCLN := Lib.hid hcln
  have HCUT := Lib.hid hcut
  have HZ := Lib.hid (⟨hz, hDs, hM⟩ : _ ∧ _ ∧ _)
  clear hA hC hl hns hr hall hlen hfrom hclean hcut htot hcln hnl hlast hnse hDn hz hDs hM
  obtain ⟨ft, hft⟩ : ∃ ft : Nat → List Txt, (fun n => (rdT (C n)).1) = ft := ⟨_, rfl⟩
  have HFT := Lib.hid hft
  have HTOT2 : Hid ((ns.flatMap ft).length ≤ 1073741824) := Lib.hid (by rw [← hft]; exact HTOT.out)
  rw [hft]
  clear hft
  go_enter Tryz.func88, Tryz.ntmps88
  go_wp2_with fail
  refine HSEG.out.mono ?_
  rintro e w2 ⟨X, c, rfl, hx2, hxf, hb2⟩
  obtain ⟨n, hn⟩ : ∃ n, ns.length = n := ⟨_, rfl⟩
  rw [hn] at hx2 ⊢
  have hnz : n ≤ 99999999 := by have := HZ.out.1; omega
  have HN := Lib.hid hn
  have HX2 := Lib.hid hx2
  have HXF := Lib.hid hxf
  have HB2 := Lib.hid hb2
  have HA2 := Lib.hid (HA.out.below HC.out hb2)
  have HXR : Hid (∀ x, X = some x → R x.block = 0 ∧ x.block ≠ g) := Lib.hid fun x hx => ⟨HA.out.dk.new (hxf x hx), by have := hxf x hx; have := HA.out.lg.lt; omega⟩
  clear hx2 hxf hb2 hn
  go_wp2_with fail
  go_loopg [8, 27] n (fun gh s8 s27 wr => ∃ (i : Nat) (A : Option Addr) (m cc : Nat) (Rr : Nat → Nat), i + gh = n ∧ s27 = .int .i64 (i : Int) ∧ s8 = .slice A m cc ∧ m = ((ns.take i).flatMap ft).length ∧
    wr.ownsRow w2.heap.size 9 1 (.slice A m cc) m (((ns.take i).flatMap ft).map txtV) ∧ OutG g R Rr w2 wr ∧ (∀ b, (Value.slice A m cc).ownBlock = some b → Rr b = 0) ∧
    (i < n → Rr = R ∧ ∃ l u, WAt B0 a M p g Rr D size l u d wr) ∧ (i = n → WAt B0 a (M + 2) p g Rr D size (nl : Int) ((rdT (C nl)).2.1 : Int) (mendD D.data.toList d nl (rdT (C nl))) wr))
  case atStart =>
    refine ⟨0, none, 0, 0, R, by omega, rfl, rfl, rfl, World.ownsRow_nil _ _ _ _, OutG.refl _ _ _, (fun b h => by cases h), (fun _ => ⟨rfl, last, used, HA2.out⟩), fun h => ?_⟩
    have := HN.out
    have := HNS.out.1
    omega
  case round =>
    obtain ⟨i, A, m, cc, Rr, hig, rfl, rfl, hm, hown, hog, hob, hlt, heq⟩ := hrel
    have HIG := Lib.hid (⟨hig, hm⟩ : _ ∧ _)
    have HOWN := Lib.hid hown
    have HOG := Lib.hid hog
    have HOB := Lib.hid hob
    have HLT := Lib.hid hlt
    have HEQ := Lib.hid heq
    clear hig hm hown hog hob hlt heq
    by_cases hi : i < n
    · have el : decide ((i : Int) < (n : Int)) = true := by simp; omega
      have e0 : (i : Int) < (n : Int) := by omega
      have e1 : (0 : Int) ≤ (i : Int) := by omega
      obtain ⟨hRr, la, us, hAr⟩ := HLT.out hi
      have hRr2 := hRr.symm
      clear hRr
      subst hRr2
      have HAR := Lib.hid hAr
      have hil : i < ns.length := by rw [HN.out]; exact hi
      obtain ⟨y, hy⟩ : ∃ y, ns[i]? = some y := ⟨_, List.getElem?_eq_getElem hil⟩
      have hym : y ∈ ns := List.mem_of_getElem? hy
      obtain ⟨b, off, rfl, hbl, x0⟩ := (HX2.out.outg HOG.out HXR.out).at_ hy
      unfold natI at x0
      have hyr := HP.out.1 y hym
      have HRD := Lib.hid (read_calls y hyr.2 HZ.out.2.1 wr hAr (by have := HZ.out.2.2; omega) HC.out (C y) (HP.out.2.1 y hym) (by have := HP.out.2.2.1 y hym; omega))
      have d2 : decide ((y : Int) < from_) = false := by have := HP.out.2.2.2 y hym; simp; omega
      have HY := Lib.hid (⟨hy, hym, hyr⟩ : _ ∧ _ ∧ _)
      have HFY : Hid ((rdT (C y)).1 = ft y) := Lib.hid (by rw [← HFT.out])
      have htk : (ns.take (i + 1)).flatMap ft = (ns.take i).flatMap ft ++ ft y := by
        rw [List.take_add_one, hy, List.flatMap_append]
        simp
      have HTK := Lib.hid htk
      have hsz : ((ns.take i).flatMap ft).length + (ft y).length ≤ 1073741824 := by
        have h1 := HTOT2.out
        have h2 : ((ns.take (i + 1)).flatMap ft).length ≤ (ns.flatMap ft).length := by
          conv => rhs; rw [← List.take_append_drop (i + 1) ns, List.flatMap_append, List.length_append]
          exact Nat.le_add_right _ _
        rw [htk, List.length_append] at h2
        omega
      have HSZ := Lib.hid hsz
      have HEI : Hid ((rdT (C y)).2.2 ≠ 0 → i + 1 = n ∧ y = nl) := Lib.hid fun h => by
        have h1 : ¬ i + 1 < ns.length := fun h2 => h (HCLN.out i y hy h2)
        have h3 : i + 1 = n := by rw [HN.out] at h1; omega
        refine ⟨h3, ?_⟩
        have h4 := HNS.out.2
        rw [show ini.length = i by have := HNS.out.1; have := HN.out; omega, hy] at h4
        exact Option.some.inj h4
      obtain ⟨r, hrr⟩ : ∃ r, rdT (C y) = r := ⟨_, rfl⟩
      rw [hrr] at HRD HFY HEI
      have HRR := Lib.hid hrr
      obtain ⟨r1, at_, ec⟩ := r
      dsimp only at HRD HFY HEI
      obtain ⟨nr, hnr⟩ : ∃ k, r1.length = k := ⟨_, rfl⟩
      have HNR := Lib.hid hnr
      rw [hnr] at HRD
      obtain ⟨yz, hyz⟩ : ∃ z : Int, (y : Int) = z := ⟨_, rfl⟩
      have HYZ := Lib.hid hyz
      rw [hyz] at HRD x0 d2
      obtain ⟨ez, hez⟩ : ∃ z : Int, (ec : Int) = z := ⟨_, rfl⟩
      have HEZ := Lib.hid hez
      rw [hez] at HRD
      obtain ⟨az, haz⟩ : ∃ z : Int, (at_ : Int) = z := ⟨_, rfl⟩
      have HAZ := Lib.hid haz
      rw [haz] at HRD
      clear hAr hy hym hyr htk hsz hrr hnr hyz hez haz hil
      go_wp2_with fail
      refine HRD.out.mono ?_
      rintro e w3 ⟨Y, cy, rfl, hsy, hy0, hyf, hb3⟩
      have HSY := Lib.hid (⟨hsy, hy0, hyf⟩ : _ ∧ _ ∧ _)
      have HB3 := Lib.hid hb3
      have HA3 := Lib.hid (HAR.out.below HC.out hb3)
      clear hsy hy0 hyf hb3 x0
      go_upto_block 6 with fail
      go_cut [] (fun wz => ∃ Rz, Out R Rz w3 wz ∧ (ec = 0 → Rz = R ∧ WAt B0 a M p g R D size la us d wz) ∧ (ec ≠ 0 → WAt B0 a (M + 2) p g Rz D size la us (mendD D.data.toList d nl (r1, at_, ec)) wz))
      case first =>
        by_cases hec : ec = 0
        · have hez0 : ez = 0 := by rw [← HEZ.out, hec]; rfl
          subst hez0
          go_wp2_with fail
          go_meet
          exact ⟨R, Out.refl _ _, fun _ => ⟨rfl, HA3.out⟩, fun h => absurd hec h⟩
        · obtain ⟨hin, hyl⟩ := HEI.out hec
          have z1 : ez ≠ 0 := by have := HEZ.out; omega
          have z2 : (ez == 0) = false := by simpa using z1
          have z3 : (ez != 0) = true := by simpa using z1
          have z4 : decide (ez = 0) = false := by simpa using z1
          have z5 : decide ((i : Int) < (n : Int) - 1) = false := by simp; omega
          obtain ⟨P, hP⟩ := wP_bytes D (y : Int)
          have hyr := HY.out.2.2
          have HPA := Lib.hid (HA3.out.path HC.out (y : Int) (by omega) (by omega) HZ.out.2.1 P hP)
          rw [HYZ.out] at HPA
          have hcut := HCUT.out (by rw [← hyl, HRR.out]; exact hec)
          rw [← hyl, HRR.out] at hcut
          dsimp only at hcut
          rw [← hP] at hcut
          have HCU := Lib.hid hcut
          have hmend : mendD D.data.toList d nl (r1, at_, ec) = (syncD (cutD d P.data.toList (at_ : Int)).2 P.data.toList).2 := by
            unfold mendD
            rw [if_neg hec, hP, ← hyl]
          have hats : at_ ≤ 1073741824 := by
            have h1 := (readsT_le (s := C y) (C y).length 0 (Nat.zero_le _)).2.1
            have h2 := HP.out.2.2.1 y HY.out.2.1
            have h3 : (readsT (C y) (C y).length 0).2.1 = at_ := by
              have := HRR.out
              unfold rdT at this
              rw [this]
            omega
          have HPS := Lib.hid (wP_size hP HZ.out.2.1)
          have HPL := Lib.hid hP
          have HAT := Lib.hid hats
          have HMEND := Lib.hid hmend
          have c0 := HA3.out.lg.c0
          have hgl := HA3.out.lg.lt
          clear hP hyl hcut hmend hats
          go_upto_region 15 with fail
          refine wp_region_later_tail 8 (by kernel_rfl) (by kernel_rfl) ?_
          simp only [List.take_succ_cons, List.take_zero, List.drop_succ_cons, List.drop_zero]
          repeat (go_big_quiet_step ((go_at_call 90; exact quiet_later _ (HPA.out _))))
          refine wpQuiet_nil ?_
          rintro w4 ⟨⟨w4, hb4⟩, rfl⟩
          have HA4 := Lib.hid (HA3.out.below HC.out hb4)
          have HO4 : Hid (Out R R w3 w4) := Lib.hid (Out.of_below hb4)
          have HCUT4 := Lib.hid (HA4.out.dk.cut (by have := HZ.out.2.2; omega) HA4.out.en.hb HA4.out.en.e.f HA4.out.f6 P at_ HPS.out HAT.out)
          rw [HAZ.out] at HCUT4
          clear hb4 c0 hgl
          go_wp2_with fail
          refine HCUT4.out.mono ?_
          rintro e w5 ⟨v5, R5, rfl, hv5, hd5, ho5⟩
          rw [← HAZ.out, HCU.out.1] at hv5
          obtain rfl := hv5.z
          rw [← HAZ.out] at hd5
          have HA5 := Lib.hid (HA4.out.out HC.out hd5 ho5)
          have HO5 := Lib.hid (HO4.out.trans ho5)
          have HPA5 := Lib.hid (HA5.out.path HC.out (y : Int) (by omega) (by omega) HZ.out.2.1 P HPL.out)
          rw [HYZ.out] at HPA5
          clear hv5 hd5 ho5
          have c0 := HA5.out.lg.c0
          have hgl := HA5.out.lg.lt
          go_upto_region 18 with fail
          refine wp_region_later_tail 7 (by kernel_rfl) (by kernel_rfl) ?_
          simp only [List.take_succ_cons, List.take_zero, List.drop_succ_cons, List.drop_zero]
          repeat (go_big_quiet_step ((go_at_call 90; exact quiet_later _ (HPA5.out _))))
          refine wpQuiet_nil ?_
          rintro w6 ⟨⟨w6, hb6⟩, rfl⟩
          have HA6 := Lib.hid (HA5.out.below HC.out hb6)
          have HO6 := Lib.hid (HO5.out.trans (Out.of_below (R := R5) hb6))
          have HSY6 := Lib.hid (HA6.out.dk.sync (by have := HZ.out.2.2; omega) HA6.out.en.hb HA6.out.en.e.f P HPS.out)
          clear hb6 c0 hgl
          go_wp2_with fail
          refine HSY6.out.mono ?_
          rintro e w7 ⟨v7, R7, rfl, hv7, hd7, ho7⟩
          rw [HCU.out.2] at hv7
          obtain rfl := hv7.z
          have HA7 := Lib.hid (HA6.out.out HC.out hd7 ho7)
          have HO7 := Lib.hid (HO6.out.trans ho7)
          clear hv7 hd7 ho7
          go_wp2_with fail
          go_meet
          refine ⟨R7, HO7.out, fun h => absurd h hec, fun _ => ?_⟩
          rw [HMEND.out]
          exact HA7.out
      case rest =>
        obtain ⟨Rz, hoz, hz1, hz2⟩ := hcut
        obtain ⟨w7, rfl⟩ : ∃ x, x = wc := ⟨_, rfl⟩
        obtain ⟨Mz, dz, hMz, HAz⟩ : ∃ Mz dz, (ec = 0 → Rz = R ∧ Mz = M ∧ dz = d) ∧ Hid ((ec ≠ 0 → Mz = M + 2 ∧ dz = mendD D.data.toList d nl (r1, at_, ec)) ∧ WAt B0 a Mz p g Rz D size la us dz w7) := by
          by_cases hec : ec = 0
          · obtain ⟨h1, h2⟩ := hz1 hec
            subst h1
            exact ⟨M, d, fun _ => ⟨rfl, rfl, rfl⟩, Lib.hid ⟨fun h => absurd hec h, h2⟩⟩
          · exact ⟨M + 2, _, fun h => absurd h hec, Lib.hid ⟨fun _ => ⟨rfl, rfl⟩, hz2 hec⟩⟩
        have HMZ := Lib.hid hMz
        have HOZ := Lib.hid hoz
        have hbase := HOG.out.size
        have hs3 := HB3.out.size
        have hsz7 := hoz.size
        have hown7 : w7.ownsRow w2.heap.size 9 1 (.slice A m cc) m (((ns.take i).flatMap ft).map txtV) := ownsRow.same HOWN.out fun k hk => by
          have hkl := (World.ownsRow.lt HOWN.out k hk).2
          exact (hoz.block k (Nat.lt_of_lt_of_le hkl hs3) (HOB.out k hk)).trans (HB3.out.block k hkl)
        have hstr7 : Strs w7 Y nr r1 := HSY.out.1.outw hoz fun x hx => HAR.out.dk.new (HSY.out.2.2 x hx)
        have hml : m = ((ns.take i).flatMap ft).length := HIG.out.2
        have hfy := HFY.out
        have hrl : (ft y).length = nr := by rw [← hfy]; exact HNR.out
        have hsz := HSZ.out
        obtain ⟨v8, w8, hrun8, hown8, hgr8, hbl8⟩ := run_textsB (.slice A m cc) m _ w2.heap.size Y nr cy r1 w7 hown7 (by omega) hstr7 HSY.out.2.1 (by omega)
        have e8 : ((ns.take i).flatMap ft).map txtV ++ r1.map txtV = ((ns.take (i + 1)).flatMap ft).map txtV := by rw [HTK.out, List.map_append, hfy]
        rw [e8] at hown8
        obtain ⟨A8, c8, rfl, _, _, _⟩ := Strs.of_own hown8 (by rw [HTK.out, List.length_append, ← hml, hrl])
        have hog7 : OutG g R Rz w2 w7 := HOG.out.trans ((OutG.of (Out.of_below HB3.out)).trans (.of hoz))
        have hog8 : OutG g R Rz w2 w8 := ⟨hgr8.os.trans hog7.os, hgr8.tape.trans hog7.tape, hgr8.output.trans hog7.output, Nat.le_trans hog7.size hgr8.size,
          fun k hk hr hkg => (hgr8.block k (by have := hog7.size; omega) (fun e => by have := (World.ownsRow.lt hown7 k e.symm).1; omega)).trans (hog7.block k hk hr hkg), hog7.old⟩
        have hvz : ∀ b, (Value.slice A m cc).ownBlock = some b → Rz b = 0 := fun b hb => hoz.old b (Nat.lt_of_lt_of_le (World.ownsRow.lt HOWN.out b hb).2 hs3) (HOB.out b hb)
        have hb8 : Below w2.heap.size w7 w8 := ⟨hgr8.os, hgr8.tape, hgr8.output, hgr8.size, fun k hk => hgr8.block k (by omega) (fun e => by have := (World.ownsRow.lt hown7 k e.symm).1; omega)⟩
        have hB0 : B0 ≤ w2.heap.size := HA2.out.en.hb
        have hgl2 : g < w2.heap.size := HA2.out.lg.lt
        have hgl7 : g < w7.heap.size := HAz.out.2.lg.lt
        have HA8 : Hid (WAt B0 a Mz p g Rz D size la us dz w8) := Lib.hid ⟨HAz.out.2.dk.grow hgr8 hvz, Blk.grown HAz.out.2.lg hgr8 (fun e => by have := (World.ownsRow.lt hown7 g e.symm).1; omega), HAz.out.2.r0, HAz.out.2.gb, HAz.out.2.en.below HC.out (hb8.mono hB0), HAz.out.2.f6.below (hb8.mono hB0)⟩
        have hob8 : ∀ b, (Value.slice A8 (m + nr) c8).ownBlock = some b → Rz b = 0 := fun b hb => by
          rcases hbl8 with h | h
          · exact hvz b (by rw [← h]; exact hb)
          · rw [h] at hb
            injection hb with hb
            exact HAz.out.2.dk.new (by omega)
        have HOWN8 := Lib.hid hown8
        have HOG8 := Lib.hid hog8
        have HOB8 := Lib.hid hob8
        have HRUN8 := Lib.hid hrun8
        have HMR : Hid (m + nr = ((ns.take (i + 1)).flatMap ft).length) := Lib.hid (by rw [HTK.out, List.length_append, ← hml, hrl])
        clear hown7 hstr7 hml hfy hrl hsz hrun8 hown8 hgr8 hbl8 e8 hog7 hog8 hvz hb8 hB0 hgl2 hgl7 hob8 hbase hs3 hsz7 hMz hoz hz1 hz2
        have c3 := HA8.out.lg.c3
        have c4 := HA8.out.lg.c4
        have f3 : w8.frozen? ⟨g, 3, none⟩ = false := Blk.frozen HA8.out.lg 3
        have f4 : w8.frozen? ⟨g, 4, none⟩ = false := Blk.frozen HA8.out.lg 4
        go_wp2_with (at_builtin; refine wpList_append_knownW rfl _ _ 78 rfl rfl rfl HRUN8.out ?_)
        have HA9 := Lib.hid (HA8.out.set HC.out yz az)
        have HOG9 := Lib.hid (HOG8.out.trans ((OutG.set g Rz w8 3 (.int .i64 yz)).trans (OutG.set g Rz _ 4 (.int .i64 az))))
        have hgn : (Value.slice A8 (m + nr) c8).ownBlock ≠ some g := fun h => by
          have := (World.ownsRow.lt HOWN8.out g h).1
          have := HA2.out.lg.lt
          omega
        have HOWN9 : Hid (((w8.setCell ⟨g, 3, none⟩ (.int .i64 yz)).setCell ⟨g, 4, none⟩ (.int .i64 az)).ownsRow w2.heap.size 9 1 (.slice A8 (m + nr) c8) (m + nr) (((ns.take (i + 1)).flatMap ft).map txtV)) := Lib.hid (ownsRow.same HOWN8.out fun k hk => by
          have hkg : k ≠ g := fun e => hgn (by rw [← e]; exact hk)
          rw [Below.heap_setCell _ _ _ _ hkg, Below.heap_setCell _ _ _ _ hkg])
        go_roundg (gk - 1)
        case measure => have := HIG.out; omega
        case rel =>
          have hig := HIG.out.1
          refine ⟨i + 1, A8, m + nr, c8, Rz, by omega, by go_num, rfl, HMR.out, HOWN9.out, HOG9.out, HOB8.out, fun h => ?_, fun h => ?_⟩
          · have hec : ec = 0 := by
              apply Classical.byContradiction
              intro h0
              have := (HEI.out h0).1
              omega
            obtain ⟨h1, h2, h3⟩ := HMZ.out hec
            subst h2 h3
            exact ⟨h1, yz, az, HA9.out⟩
          · have hyl : y = nl := by
              have h4 := HNS.out.2
              rw [show ini.length = i by have := HNS.out.1; have := HN.out; omega, HY.out.1] at h4
              exact Option.some.inj h4
            subst hyl
            rw [HRR.out]
            dsimp only
            rw [HYZ.out, HAZ.out]
            by_cases hec : ec = 0
            · obtain ⟨h1, h2, h3⟩ := HMZ.out hec
              subst h2 h3
              have hm0 : mendD D.data.toList dz y (r1, at_, ec) = dz := by
                unfold mendD
                rw [if_pos hec]
              rw [hm0]
              exact HA9.out.more (by omega)
            · obtain ⟨h2, h3⟩ := HAz.out.1 hec
              rw [← h2, ← h3]
              exact HA9.out
    · have el : decide ((i : Int) < (n : Int)) = false := by simp; omega
      have hi3 : i = n := by have := HIG.out.1; omega
      have HAF := Lib.hid (HEQ.out hi3)
      have c3 := HAF.out.lg.c3
      have hn1 := (HP.out.1 nl (List.mem_of_getElem? HNS.out.2)).1
      obtain ⟨lz, hlz⟩ : ∃ z : Int, (nl : Int) = z := ⟨_, rfl⟩
      have z1 : lz ≠ 0 := by omega
      have z2 : (lz == 0) = false := by simpa using z1
      have z4 : decide (lz = 0) = false := by simpa using z1
      have HLZ := Lib.hid hlz
      rw [hlz] at c3
      clear hlz hn1
      go_wp2_with fail
      go_ret2
      have hog := HOG.out
      have htk : ns.take i = ns := List.take_of_length_le (by rw [HN.out]; omega)
      have ho := HOWN.out
      have hm := HIG.out.2
      rw [htk] at ho hm
      obtain ⟨A2, c2, e2, h2, h3, _⟩ := Strs.of_own ho hm.symm
      injection e2 with e3 e4 e5
      subst e3
      refine ⟨A, cc, m, Rr, rfl, h2, fun x hx => ?_, HAF.out, (OutG.of (Out.of_below HB2.out)).trans hog⟩
      have h5 := h3 x hx
      have h6 := HB2.out.size
      refine ⟨by omega, HOB.out x.block ?_⟩
      subst hx
      rfl
end
end Go.Proofs.YtfpgbhimgfdddaaGreatDoor
