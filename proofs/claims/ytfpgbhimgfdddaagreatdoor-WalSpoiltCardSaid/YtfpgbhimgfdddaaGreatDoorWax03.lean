/- Merged: WalWalksE, WalWalksF, WalWalksG, WalWalksH, WalWalksI. -/
import Derived.Test.YtfpgbhimgfdddaaGreatDoorWax02
import Derived.Test.YtfpgbhimgfdddaaGreatDoorWak16
set_option linter.unusedVariables false
set_option linter.unusedSimpArgs false
/-! ## WalWalksE -/
/- The walks of layer 16 (wal): recover, where all segments but the last one read without an error. -/
namespace Go.Proofs.YtfpgbhimgfdddaaGreatDoor
open Go.RowKit Go.Shelf Go.Sort
attribute [local go_sem ↓] Go.wp_at_zero Go.wp_at_succ
attribute [local go_sem] Later.cell Later.frozen

section
variable {B0 M p g : Nat} {a : Nat → Addr} {R R' : Nat → Nat} {d : Ds} {w w' : World} {D : ByteArray} {size last used : Int}
theorem wpList_append_knownW {P : Program} {w w' : World} {ops : Array Oper} {rest : List Oper} {o : Oper} {a : Act} {Q : Exit → Act → World → Prop} (hgd : o.guard = none) (s x : Operand) (t : TypeId)
    (ho : o.op = .call { callee := .builtin .append, args := #[s, x], argTypes := #[t, t] }) {v u v' : Value} (hs : a.eval s = v) (hx : a.eval x = u)
    (hrun : (Builtin.append_ #[t, t] o.type #[v, u]).run P w = .ok v' w') (h : wpList P ops Q rest (a.put o.dst v') w') : wpList P ops Q (o :: rest) a w := by
  refine wpList_plain hgd fun K hK => ?_
  unfold Oper.wp
  simp [execOp, ho, resolve, invoke, builtin, hs, hx, hrun, Result.andThen]
  exact hK _ _ h
theorem txtV_oneW (l : List Txt) : ∀ u ∈ l.map txtV, u.oneCell' = true := by
  intro u hu
  obtain ⟨x, _, rfl⟩ := List.mem_map.1 hu
  rfl
/-- append(v, l...) where v is one's own. -/
theorem run_textsB (v : Value) (k : Nat) (xs : List Value) (B : Nat) (Ad : Option Addr) (n c : Nat) (l : List Txt) (w : World) (hown : w.ownsRow B 9 1 v k xs) (hB : B ≤ w.heap.size) (h : Strs w Ad n l) (hA : Ad = none → c = 0) (hn : (k + n) * 16 ≤ 140737488351232) :
    ∃ v' w', (Builtin.append_ #[78, 78] 78 #[v, .slice Ad n c]).run Tryz.prog w = .ok v' w' ∧ w'.ownsRow B 9 1 v' (k + n) (xs ++ l.map txtV) ∧ w.grownBy w' v.ownBlock ∧ (v'.ownBlock = v.ownBlock ∨ v'.ownBlock = some w.heap.size) := by
  obtain ⟨i0, hi0, hz0, hz1, hz2⟩ := info_parts info_strW
  have hl := h.len
  cases Ad with
  | none =>
    have h0 : n = 0 := by
      rcases Nat.eq_zero_or_pos n with h0 | h0
      · exact h0
      · obtain ⟨b, off, e, _⟩ := h.2 h0; cases e
    subst h0
    obtain rfl := hA rfl
    obtain rfl : l = [] := List.eq_nil_of_length_eq_zero hl
    exact ⟨v, w, run_append_owned_none (P := Tryz.prog) (w := w) B 78 78 9 i0 1 Tryz.underlying78 hi0 v k xs hown, by simpa using hown, ⟨rfl, rfl, rfl, Nat.le_refl _, fun _ _ _ => rfl⟩, .inl rfl⟩
  | some x =>
    obtain ⟨v', w', h1, h2, h3, _, h5⟩ := run_append_own_at (P := Tryz.prog) (w := w) B 78 78 9 i0 (.string ⟨#[]⟩) 1 16 Tryz.underlying78 hi0 hz0 hz1 hz2 rfl (by decide) v k xs hown x n c (l.map txtV) (by rw [List.length_map, hl, Nat.mul_one]) h.cells (txtV_oneW l) (by unfold maxLen; omega) (by omega) hB
    exact ⟨v', w', h1, h2, h3, h5⟩
/-- What mends a last segment that is spoilt. -/
def mendD (D : Txt) (d : Ds) (n : Nat) (r : List Txt × Nat × Nat) : Ds := if r.2.2 = 0 then d else (syncD (cutD d (wP D (n : Int)) (r.2.1 : Int)).2 (wP D (n : Int))).2
theorem Nats.outg {X : Option Addr} {n : Nat} {l : List Nat} (h : Nats w X n l) (ho : OutG g R R' w w') (h0 : ∀ x, X = some x → R x.block = 0 ∧ x.block ≠ g) : Nats w' X n l :=
  ⟨h.1, fun hn => by
    obtain ⟨b, off, e, hb, hc⟩ := h.2 hn
    have h1 := h0 _ e
    exact ⟨b, off, e, Nat.lt_of_lt_of_le hb ho.size, fun i x hx j v hv => (World.cell?_of_block (w := w) (ho.block b hb h1.1 h1.2)).trans (hc i x hx j v hv)⟩⟩
theorem Strs.outw {X : Option Addr} {n : Nat} {l : List Txt} (h : Strs w X n l) (ho : Out R R' w w') (h0 : ∀ x, X = some x → R x.block = 0) : Strs w' X n l :=
  ⟨h.1, fun hn => by
    obtain ⟨b, off, e, hb, hc⟩ := h.2 hn
    have h1 := h0 _ e
    exact ⟨b, off, e, Nat.lt_of_lt_of_le hb ho.size, fun i x hx j v hv => (World.cell?_of_block (w := w) (ho.block b hb h1)).trans (hc i x hx j v hv)⟩⟩
theorem Dk.grow (h : Dk B0 M w R p d) {v : Option Nat} (hg : w.grownBy w' v) (hv : ∀ b, v = some b → R b = 0) : Dk B0 M w' R p d := by
  obtain ⟨A, h1, h2⟩ := h.ex
  exact ⟨⟨A, h1.same (fun j hj => ⟨hg.block j (h1.inw j hj) (fun e => hj (hv j e.symm)), rfl⟩) (h1.inw.mono hg.size) h1.low, h2⟩, h.wf⟩
theorem Nats.at_ {X : Option Addr} {n : Nat} {l : List Nat} (h : Nats w X n l) {i y : Nat} (hy : l[i]? = some y) : ∃ b off, X = some ⟨b, off, none⟩ ∧ b < w.heap.size ∧ w.cell? ⟨b, off + i, none⟩ = some (natI y) := by
  have hi : i < n := by rw [← h.1]; exact (List.getElem?_eq_some_iff.1 hy).1
  obtain ⟨b, off, e, hb, hc⟩ := h.2 (by omega)
  have := hc i y hy 0 (natI y) rfl
  exact ⟨b, off, e, hb, by simpa using this⟩
set_option maxRecDepth 100000 in
set_option maxHeartbeats 8000000 in
theorem recover_good (hDs : D.size ≤ 1000) (hDn : nameB D.data.toList = true) (from_ : Int) (w : World) (hA : WAt B0 a M p g R D size last used d w) (hM : M + 2 ≤ 536870912) (hC : SCon B0 a)
    (le : List En) (hl : listD d D.data.toList = (le, 0)) (ini : List Nat) (nl : Nat) (hns : entSegs le (ini ++ [nl])) (hr : ∀ n ∈ ini ++ [nl], 1 ≤ n ∧ n ≤ 99999999) (hz : (ini ++ [nl]).length ≤ 99999999)
    (C : Nat → Txt) (hall : ∀ n ∈ ini ++ [nl], allD d (wP D.data.toList (n : Int)) = (C n, 0)) (hlen : ∀ n ∈ ini ++ [nl], (C n).length ≤ 67108864) (htot : (((ini ++ [nl]).flatMap fun n => (rdT (C n)).1).length ≤ 1073741824))
    (hfrom : ∀ n ∈ ini ++ [nl], from_ ≤ (n : Int)) (hclean : ∀ n ∈ ini, (rdT (C n)).2.2 = 0)
    (hcut : (rdT (C nl)).2.2 ≠ 0 → (cutD d (wP D.data.toList (nl : Int)) ((rdT (C nl)).2.1 : Int)).1 = 0 ∧ (syncD (cutD d (wP D.data.toList (nl : Int)) ((rdT (C nl)).2.1 : Int)).2 (wP D.data.toList (nl : Int))).1 = 0) :
    Calls Tryz.prog 88 #[.pointer (some ⟨g, 0, none⟩), .int .i64 from_] w fun e w' => ∃ X c n R', e = .returned (.tuple #[.slice X n c, .nilIface]) ∧ Strs w' X n ((ini ++ [nl]).flatMap fun n => (rdT (C n)).1) ∧
      (∀ x, X = some x → w.heap.size ≤ x.block ∧ R' x.block = 0) ∧ WAt B0 a (M + 2) p g R' D size (nl : Int) ((rdT (C nl)).2.1 : Int) (mendD D.data.toList d nl (rdT (C nl))) w' ∧ OutG g R R' w w' := by
  obtain ⟨ns, hnse⟩ : ∃ ns, ini ++ [nl] = ns := ⟨_, rfl⟩
  have hnl : ns.length = ini.length + 1 := by rw [← hnse]; simp
  have hlast : ns[ini.length]? = some nl := by rw [← hnse]; simp
  rw [hnse] at hns hr hz hall hlen htot hfrom ⊢
  have hcln : ∀ i n, ns[i]? = some n → i + 1 < ns.length → (rdT (C n)).2.2 = 0 := fun i n hi h => by
    refine hclean n ?_
    rw [← hnse, List.getElem?_append_left (by omega)] at hi
    exact List.mem_of_getElem? hi
  have HSEG := Lib.hid (segments_calls (D := D) hDs hDn w hA (by omega) hC le ns hl hns hr hz)
  have HA := Lib.hid hA
  have HC := Lib.hid hC
  have HNS := Lib.hid (⟨hnl, hlast⟩ : _ ∧ _)
  have HP := Lib.hid (⟨hr, hall, hlen, hfrom⟩ : _ ∧ _ ∧ _ ∧ _)
  have HTOT := Lib.hid htot
  have HCLN := Lib.hid hcln
  have HCUT := Lib.hid hcut
  have HZ := Lib.hid (⟨hz, hDs, hM⟩ : _ ∧ _ ∧ _)
  clear hA hC hl hns hr hall hlen hfrom hclean hcut htot hcln hnl hlast hnse hDn hz hDs hM
  obtain ⟨ft, hft⟩ : ∃ ft : Nat → List Txt, (fun n => (rdT (C n)).1) = ft := ⟨_, rfl⟩
  have HFT := Lib.hid hft
  have HTOT2 : Hid ((ns.flatMap ft).length ≤ 1073741824) := Lib.hid (by rw [← hft]; exact HTOT.out)
  rw [hft]
  clear hft
  go_enter Tryz.func88, Tryz.ntmps88
  go_wp2_with fail
  refine HSEG.out.mono ?_
  rintro e w2 ⟨X, c, rfl, hx2, hxf, hb2⟩
  obtain ⟨n, hn⟩ : ∃ n, ns.length = n := ⟨_, rfl⟩
  rw [hn] at hx2 ⊢
  have hnz : n ≤ 99999999 := by have := HZ.out.1; omega
  have HN := Lib.hid hn
  have HX2 := Lib.hid hx2
  have HXF := Lib.hid hxf
  have HB2 := Lib.hid hb2
  have HA2 := Lib.hid (HA.out.below HC.out hb2)
  have HXR : Hid (∀ x, X = some x → R x.block = 0 ∧ x.block ≠ g) := Lib.hid fun x hx => ⟨HA.out.dk.new (hxf x hx), by have := hxf x hx; have := HA.out.lg.lt; omega⟩
  clear hx2 hxf hb2 hn
  go_wp2_with fail
  go_loopg [8, 27] n (fun gh s8 s27 wr => ∃ (i : Nat) (A : Option Addr) (m cc : Nat) (Rr : Nat → Nat), i + gh = n ∧ s27 = .int .i64 (i : Int) ∧ s8 = .slice A m cc ∧ m = ((ns.take i).flatMap ft).length ∧
    wr.ownsRow w2.heap.size 9 1 (.slice A m cc) m (((ns.take i).flatMap ft).map txtV) ∧ OutG g R Rr w2 wr ∧ (∀ b, (Value.slice A m cc).ownBlock = some b → Rr b = 0) ∧
    (i < n → Rr = R ∧ ∃ l u, WAt B0 a M p g Rr D size l u d wr) ∧ (i = n → WAt B0 a (M + 2) p g Rr D size (nl : Int) ((rdT (C nl)).2.1 : Int) (mendD D.data.toList d nl (rdT (C nl))) wr))
  case atStart =>
    refine ⟨0, none, 0, 0, R, by omega, rfl, rfl, rfl, World.ownsRow_nil _ _ _ _, OutG.refl _ _ _, (fun b h => by cases h), (fun _ => ⟨rfl, last, used, HA2.out⟩), fun h => ?_⟩
    have := HN.out
    have := HNS.out.1
    omega
  case round =>
    obtain ⟨i, A, m, cc, Rr, hig, rfl, rfl, hm, hown, hog, hob, hlt, heq⟩ := hrel
    have HIG := Lib.hid (⟨hig, hm⟩ : _ ∧ _)
    have HOWN := Lib.hid hown
    have HOG := Lib.hid hog
    have HOB := Lib.hid hob
    have HLT := Lib.hid hlt
    have HEQ := Lib.hid heq
    clear hig hm hown hog hob hlt heq
    by_cases hi : i < n
    · have el : decide ((i : Int) < (n : Int)) = true := by simp; omega
      have e0 : (i : Int) < (n : Int) := by omega
      have e1 : (0 : Int) ≤ (i : Int) := by omega
      obtain ⟨hRr, la, us, hAr⟩ := HLT.out hi
      have hRr2 := hRr.symm
      clear hRr
      subst hRr2
      have HAR := Lib.hid hAr
      have hil : i < ns.length := by rw [HN.out]; exact hi
      obtain ⟨y, hy⟩ : ∃ y, ns[i]? = some y := ⟨_, List.getElem?_eq_getElem hil⟩
      have hym : y ∈ ns := List.mem_of_getElem? hy
      obtain ⟨b, off, rfl, hbl, x0⟩ := (HX2.out.outg HOG.out HXR.out).at_ hy
      unfold natI at x0
      have hyr := HP.out.1 y hym
      have HRD := Lib.hid (read_calls y hyr.2 HZ.out.2.1 wr hAr (by have := HZ.out.2.2; omega) HC.out (C y) (HP.out.2.1 y hym) (by have := HP.out.2.2.1 y hym; omega))
      have d2 : decide ((y : Int) < from_) = false := by have := HP.out.2.2.2 y hym; simp; omega
      have HY := Lib.hid (⟨hy, hym, hyr⟩ : _ ∧ _ ∧ _)
      have HFY : Hid ((rdT (C y)).1 = ft y) := Lib.hid (by rw [← HFT.out])
      have htk : (ns.take (i + 1)).flatMap ft = (ns.take i).flatMap ft ++ ft y := by
        rw [List.take_add_one, hy, List.flatMap_append]
        simp
      have HTK := Lib.hid htk
      have hsz : ((ns.take i).flatMap ft).length + (ft y).length ≤ 1073741824 := by
        have h1 := HTOT2.out
        have h2 : ((ns.take (i + 1)).flatMap ft).length ≤ (ns.flatMap ft).length := by
          conv => rhs; rw [← List.take_append_drop (i + 1) ns, List.flatMap_append, List.length_append]
          exact Nat.le_add_right _ _
        rw [htk, List.length_append] at h2
        omega
      have HSZ := Lib.hid hsz
      have HEI : Hid ((rdT (C y)).2.2 ≠ 0 → i + 1 = n ∧ y = nl) := Lib.hid fun h => by
        have h1 : ¬ i + 1 < ns.length := fun h2 => h (HCLN.out i y hy h2)
        have h3 : i + 1 = n := by rw [HN.out] at h1; omega
        refine ⟨h3, ?_⟩
        have h4 := HNS.out.2
        rw [show ini.length = i by have := HNS.out.1; have := HN.out; omega, hy] at h4
        exact Option.some.inj h4
      obtain ⟨r, hrr⟩ : ∃ r, rdT (C y) = r := ⟨_, rfl⟩
      rw [hrr] at HRD HFY HEI
      have HRR := Lib.hid hrr
      obtain ⟨r1, at_, ec⟩ := r
      dsimp only at HRD HFY HEI
      obtain ⟨nr, hnr⟩ : ∃ k, r1.length = k := ⟨_, rfl⟩
      have HNR := Lib.hid hnr
      rw [hnr] at HRD
      obtain ⟨yz, hyz⟩ : ∃ z : Int, (y : Int) = z := ⟨_, rfl⟩
      have HYZ := Lib.hid hyz
      rw [hyz] at HRD x0 d2
      obtain ⟨ez, hez⟩ : ∃ z : Int, (ec : Int) = z := ⟨_, rfl⟩
      have HEZ := Lib.hid hez
      rw [hez] at HRD
      obtain ⟨az, haz⟩ : ∃ z : Int, (at_ : Int) = z := ⟨_, rfl⟩
      have HAZ := Lib.hid haz
      rw [haz] at HRD
      clear hAr hy hym hyr htk hsz hrr hnr hyz hez haz hil
      go_wp2_with fail
      refine HRD.out.mono ?_
      rintro e w3 ⟨Y, cy, rfl, hsy, hy0, hyf, hb3⟩
      have HSY := Lib.hid (⟨hsy, hy0, hyf⟩ : _ ∧ _ ∧ _)
      have HB3 := Lib.hid hb3
      have HA3 := Lib.hid (HAR.out.below HC.out hb3)
      clear hsy hy0 hyf hb3 x0
      go_upto_block 6 with fail
      go_cut [] (fun wz => ∃ Rz, Out R Rz w3 wz ∧ (ec = 0 → Rz = R ∧ WAt B0 a M p g R D size la us d wz) ∧ (ec ≠ 0 → WAt B0 a (M + 2) p g Rz D size la us (mendD D.data.toList d nl (r1, at_, ec)) wz))
      case first =>
        by_cases hec : ec = 0
        · have hez0 : ez = 0 := by rw [← HEZ.out, hec]; rfl
          subst hez0
          go_wp2_with fail
          go_meet
          exact ⟨R, Out.refl _ _, fun _ => ⟨rfl, HA3.out⟩, fun h => absurd hec h⟩
        · obtain ⟨hin, hyl⟩ := HEI.out hec
          have z1 : ez ≠ 0 := by have := HEZ.out; omega
          have z2 : (ez == 0) = false := by simpa using z1
          have z3 : (ez != 0) = true := by simpa using z1
          have z4 : decide (ez = 0) = false := by simpa using z1
          have z5 : decide ((i : Int) < (n : Int) - 1) = false := by simp; omega
          obtain ⟨P, hP⟩ := wP_bytes D (y : Int)
          have hyr := HY.out.2.2
          have HPA := Lib.hid (HA3.out.path HC.out (y : Int) (by omega) (by omega) HZ.out.2.1 P hP)
          rw [HYZ.out] at HPA
          have hcut := HCUT.out (by rw [← hyl, HRR.out]; exact hec)
          rw [← hyl, HRR.out] at hcut
          dsimp only at hcut
          rw [← hP] at hcut
          have HCU := Lib.hid hcut
          have hmend : mendD D.data.toList d nl (r1, at_, ec) = (syncD (cutD d P.data.toList (at_ : Int)).2 P.data.toList).2 := by
            unfold mendD
            rw [if_neg hec, hP, ← hyl]
          have hats : at_ ≤ 1073741824 := by
            have h1 := (readsT_le (s := C y) (C y).length 0 (Nat.zero_le _)).2.1
            have h2 := HP.out.2.2.1 y HY.out.2.1
            have h3 : (readsT (C y) (C y).length 0).2.1 = at_ := by
              have := HRR.out
              unfold rdT at this
              rw [this]
            omega
          have HPS := Lib.hid (wP_size hP HZ.out.2.1)
          have HPL := Lib.hid hP
          have HAT := Lib.hid hats
          have HMEND := Lib.hid hmend
          have c0 := HA3.out.lg.c0
          have hgl := HA3.out.lg.lt
          clear hP hyl hcut hmend hats
          go_upto_region 15 with fail
          refine wp_region_later_tail 8 (by kernel_rfl) (by kernel_rfl) ?_
          simp only [List.take_succ_cons, List.take_zero, List.drop_succ_cons, List.drop_zero]
          repeat (go_big_quiet_step ((go_at_call 90; exact quiet_later _ (HPA.out _))))
          refine wpQuiet_nil ?_
          rintro w4 ⟨⟨w4, hb4⟩, rfl⟩
          have HA4 := Lib.hid (HA3.out.below HC.out hb4)
          have HO4 : Hid (Out R R w3 w4) := Lib.hid (Out.of_below hb4)
          have HCUT4 := Lib.hid (HA4.out.dk.cut (by have := HZ.out.2.2; omega) HA4.out.en.hb HA4.out.en.e.f HA4.out.f6 P at_ HPS.out HAT.out)
          rw [HAZ.out] at HCUT4
          clear hb4 c0 hgl
          go_wp2_with fail
          refine HCUT4.out.mono ?_
          rintro e w5 ⟨v5, R5, rfl, hv5, hd5, ho5⟩
          rw [← HAZ.out, HCU.out.1] at hv5
          obtain rfl := hv5.z
          rw [← HAZ.out] at hd5
          have HA5 := Lib.hid (HA4.out.out HC.out hd5 ho5)
          have HO5 := Lib.hid (HO4.out.trans ho5)
          have HPA5 := Lib.hid (HA5.out.path HC.out (y : Int) (by omega) (by omega) HZ.out.2.1 P HPL.out)
          rw [HYZ.out] at HPA5
          clear hv5 hd5 ho5
          have c0 := HA5.out.lg.c0
          have hgl := HA5.out.lg.lt
          go_upto_region 18 with fail
          refine wp_region_later_tail 7 (by kernel_rfl) (by kernel_rfl) ?_
          simp only [List.take_succ_cons, List.take_zero, List.drop_succ_cons, List.drop_zero]
          repeat (go_big_quiet_step ((go_at_call 90; exact quiet_later _ (HPA5.out _))))
          refine wpQuiet_nil ?_
          rintro w6 ⟨⟨w6, hb6⟩, rfl⟩
          have HA6 := Lib.hid (HA5.out.below HC.out hb6)
          have HO6 := Lib.hid (HO5.out.trans (Out.of_below (R := R5) hb6))
          have HSY6 := Lib.hid (HA6.out.dk.sync (by have := HZ.out.2.2; omega) HA6.out.en.hb HA6.out.en.e.f P HPS.out)
          clear hb6 c0 hgl
          go_wp2_with fail
          refine HSY6.out.mono ?_
          rintro e w7 ⟨v7, R7, rfl, hv7, hd7, ho7⟩
          rw [HCU.out.2] at hv7
          obtain rfl := hv7.z
          have HA7 := Lib.hid (HA6.out.out HC.out hd7 ho7)
          have HO7 := Lib.hid (HO6.out.trans ho7)
          clear hv7 hd7 ho7
          go_wp2_with fail
          go_meet
          refine ⟨R7, HO7.out, fun h => absurd h hec, fun _ => ?_⟩
          rw [HMEND.out]
          exact HA7.out
      case rest =>
        obtain ⟨Rz, hoz, hz1, hz2⟩ := hcut
        obtain ⟨w7, rfl⟩ : ∃ x, x = wc := ⟨_, rfl⟩
        obtain ⟨Mz, dz, hMz, HAz⟩ : ∃ Mz dz, (ec = 0 → Rz = R ∧ Mz = M ∧ dz = d) ∧ Hid ((ec ≠ 0 → Mz = M + 2 ∧ dz = mendD D.data.toList d nl (r1, at_, ec)) ∧ WAt B0 a Mz p g Rz D size la us dz w7) := by
          by_cases hec : ec = 0
          · obtain ⟨h1, h2⟩ := hz1 hec
            subst h1
            exact ⟨M, d, fun _ => ⟨rfl, rfl, rfl⟩, Lib.hid ⟨fun h => absurd hec h, h2⟩⟩
          · exact ⟨M + 2, _, fun h => absurd h hec, Lib.hid ⟨fun _ => ⟨rfl, rfl⟩, hz2 hec⟩⟩
        have HMZ := Lib.hid hMz
        have HOZ := Lib.hid hoz
        have hbase := HOG.out.size
        have hs3 := HB3.out.size
        have hsz7 := hoz.size
        have hown7 : w7.ownsRow w2.heap.size 9 1 (.slice A m cc) m (((ns.take i).flatMap ft).map txtV) := ownsRow.same HOWN.out fun k hk => by
          have hkl := (World.ownsRow.lt HOWN.out k hk).2
          exact (hoz.block k (Nat.lt_of_lt_of_le hkl hs3) (HOB.out k hk)).trans (HB3.out.block k hkl)
        have hstr7 : Strs w7 Y nr r1 := HSY.out.1.outw hoz fun x hx => HAR.out.dk.new (HSY.out.2.2 x hx)
        have hml : m = ((ns.take i).flatMap ft).length := HIG.out.2
        have hfy := HFY.out
        have hrl : (ft y).length = nr := by rw [← hfy]; exact HNR.out
        have hsz := HSZ.out
        obtain ⟨v8, w8, hrun8, hown8, hgr8, hbl8⟩ := run_textsB (.slice A m cc) m _ w2.heap.size Y nr cy r1 w7 hown7 (by omega) hstr7 HSY.out.2.1 (by omega)
        have e8 : ((ns.take i).flatMap ft).map txtV ++ r1.map txtV = ((ns.take (i + 1)).flatMap ft).map txtV := by rw [HTK.out, List.map_append, hfy]
        rw [e8] at hown8
        obtain ⟨A8, c8, rfl, _, _, _⟩ := Strs.of_own hown8 (by rw [HTK.out, List.length_append, ← hml, hrl])
        have hog7 : OutG g R Rz w2 w7 := HOG.out.trans ((OutG.of (Out.of_below HB3.out)).trans (.of hoz))
        have hog8 : OutG g R Rz w2 w8 := ⟨hgr8.os.trans hog7.os, hgr8.tape.trans hog7.tape, hgr8.output.trans hog7.output, Nat.le_trans hog7.size hgr8.size,
          fun k hk hr hkg => (hgr8.block k (by have := hog7.size; omega) (fun e => by have := (World.ownsRow.lt hown7 k e.symm).1; omega)).trans (hog7.block k hk hr hkg), hog7.old⟩
        have hvz : ∀ b, (Value.slice A m cc).ownBlock = some b → Rz b = 0 := fun b hb => hoz.old b (Nat.lt_of_lt_of_le (World.ownsRow.lt HOWN.out b hb).2 hs3) (HOB.out b hb)
        have hb8 : Below w2.heap.size w7 w8 := ⟨hgr8.os, hgr8.tape, hgr8.output, hgr8.size, fun k hk => hgr8.block k (by omega) (fun e => by have := (World.ownsRow.lt hown7 k e.symm).1; omega)⟩
        have hB0 : B0 ≤ w2.heap.size := HA2.out.en.hb
        have hgl2 : g < w2.heap.size := HA2.out.lg.lt
        have hgl7 : g < w7.heap.size := HAz.out.2.lg.lt
        have HA8 : Hid (WAt B0 a Mz p g Rz D size la us dz w8) := Lib.hid ⟨HAz.out.2.dk.grow hgr8 hvz, Blk.grown HAz.out.2.lg hgr8 (fun e => by have := (World.ownsRow.lt hown7 g e.symm).1; omega), HAz.out.2.r0, HAz.out.2.gb, HAz.out.2.en.below HC.out (hb8.mono hB0), HAz.out.2.f6.below (hb8.mono hB0)⟩
        have hob8 : ∀ b, (Value.slice A8 (m + nr) c8).ownBlock = some b → Rz b = 0 := fun b hb => by
          rcases hbl8 with h | h
          · exact hvz b (by rw [← h]; exact hb)
          · rw [h] at hb
            injection hb with hb
            exact HAz.out.2.dk.new (by omega)
        have HOWN8 := Lib.hid hown8
        have HOG8 := Lib.hid hog8
        have HOB8 := Lib.hid hob8
        have HRUN8 := Lib.hid hrun8
        have HMR : Hid (m + nr = ((ns.take (i + 1)).flatMap ft).length) := Lib.hid (by rw [HTK.out, List.length_append, ← hml, hrl])
        clear hown7 hstr7 hml hfy hrl hsz hrun8 hown8 hgr8 hbl8 e8 hog7 hog8 hvz hb8 hB0 hgl2 hgl7 hob8 hbase hs3 hsz7 hMz hoz hz1 hz2
        have c3 := HA8.out.lg.c3
        have c4 := HA8.out.lg.c4
        have f3 : w8.frozen? ⟨g, 3, none⟩ = false := Blk.frozen HA8.out.lg 3
        have f4 : w8.frozen? ⟨g, 4, none⟩ = false := Blk.frozen HA8.out.lg 4
        go_wp2_with (at_builtin; refine wpList_append_knownW rfl _ _ 78 rfl rfl rfl HRUN8.out ?_)
        have HA9 := Lib.hid (HA8.out.set HC.out yz az)
        have HOG9 := Lib.hid (HOG8.out.trans ((OutG.set g Rz w8 3 (.int .i64 yz)).trans (OutG.set g Rz _ 4 (.int .i64 az))))
        have hgn : (Value.slice A8 (m + nr) c8).ownBlock ≠ some g := fun h => by
          have := (World.ownsRow.lt HOWN8.out g h).1
          have := HA2.out.lg.lt
          omega
        have HOWN9 : Hid (((w8.setCell ⟨g, 3, none⟩ (.int .i64 yz)).setCell ⟨g, 4, none⟩ (.int .i64 az)).ownsRow w2.heap.size 9 1 (.slice A8 (m + nr) c8) (m + nr) (((ns.take (i + 1)).flatMap ft).map txtV)) := Lib.hid (ownsRow.same HOWN8.out fun k hk => by
          have hkg : k ≠ g := fun e => hgn (by rw [← e]; exact hk)
          rw [Below.heap_setCell _ _ _ _ hkg, Below.heap_setCell _ _ _ _ hkg])
        go_roundg (gk - 1)
        case measure => have := HIG.out; omega
        case rel =>
          have hig := HIG.out.1
          refine ⟨i + 1, A8, m + nr, c8, Rz, by omega, by go_num, rfl, HMR.out, HOWN9.out, HOG9.out, HOB8.out, fun h => ?_, fun h => ?_⟩
          · have hec : ec = 0 := by
              apply Classical.byContradiction
              intro h0
              have := (HEI.out h0).1
              omega
            obtain ⟨h1, h2, h3⟩ := HMZ.out hec
            subst h2 h3
            exact ⟨h1, yz, az, HA9.out⟩
          · have hyl : y = nl := by
              have h4 := HNS.out.2
              rw [show ini.length = i by have := HNS.out.1; have := HN.out; omega, HY.out.1] at h4
              exact Option.some.inj h4
            subst hyl
            rw [HRR.out]
            dsimp only
            rw [HYZ.out, HAZ.out]
            by_cases hec : ec = 0
            · obtain ⟨h1, h2, h3⟩ := HMZ.out hec
              subst h2 h3
              have hm0 : mendD D.data.toList dz y (r1, at_, ec) = dz := by
                unfold mendD
                rw [if_pos hec]
              rw [hm0]
              exact HA9.out.more (by omega)
            · obtain ⟨h2, h3⟩ := HAz.out.1 hec
              rw [← h2, ← h3]
              exact HA9.out
    · have el : decide ((i : Int) < (n : Int)) = false := by simp; omega
      have hi3 : i = n := by have := HIG.out.1; omega
      have HAF := Lib.hid (HEQ.out hi3)
      have c3 := HAF.out.lg.c3
      have hn1 := (HP.out.1 nl (List.mem_of_getElem? HNS.out.2)).1
      obtain ⟨lz, hlz⟩ : ∃ z : Int, (nl : Int) = z := ⟨_, rfl⟩
      have z1 : lz ≠ 0 := by omega
      have z2 : (lz == 0) = false := by simpa using z1
      have z4 : decide (lz = 0) = false := by simpa using z1
      have HLZ := Lib.hid hlz
      rw [hlz] at c3
      clear hlz hn1
      go_wp2_with fail
      go_ret2
      have hog := HOG.out
      have htk : ns.take i = ns := List.take_of_length_le (by rw [HN.out]; omega)
      have ho := HOWN.out
      have hm := HIG.out.2
      rw [htk] at ho hm
      obtain ⟨A2, c2, e2, h2, h3, _⟩ := Strs.of_own ho hm.symm
      injection e2 with e3 e4 e5
      subst e3
      refine ⟨A, cc, m, Rr, rfl, h2, fun x hx => ?_, HAF.out, (OutG.of (Out.of_below HB2.out)).trans hog⟩
      have h5 := h3 x hx
      have h6 := HB2.out.size
      refine ⟨by omega, HOB.out x.block ?_⟩
      subst hx
      rfl
end
end Go.Proofs.YtfpgbhimgfdddaaGreatDoor

/-! ## WalWalksF -/
/- The walks of layer 16 (wal): recover of a directory without segments; recover that meets a spoilt segment behind which others stand. -/
namespace Go.Proofs.YtfpgbhimgfdddaaGreatDoor
open Go.RowKit Go.Shelf Go.Sort
attribute [local go_sem ↓] Go.wp_at_zero Go.wp_at_succ
attribute [local go_sem] Later.cell Later.frozen

section
variable {B0 M p g : Nat} {a : Nat → Addr} {R R' : Nat → Nat} {d : Ds} {w w' : World} {D : ByteArray} {size last used : Int}
set_option maxRecDepth 100000 in
set_option maxHeartbeats 4000000 in
theorem recover_new (hDs : D.size ≤ 1000) (hDn : nameB D.data.toList = true) (from_ : Nat) (hf : from_ ≤ 99999999) (w : World) (hA : WAt B0 a M p g R D size 0 used d w) (hM : M + 2 ≤ 536870912) (hC : SCon B0 a)
    (hl : listD d D.data.toList = ([], 0)) (hcr : (createD d (wP D.data.toList (from_ : Int))).1 = 0) (hsn : (syncNamesD (createD d (wP D.data.toList (from_ : Int))).2).1 = 0) :
    Calls Tryz.prog 88 #[.pointer (some ⟨g, 0, none⟩), .int .i64 (from_ : Int)] w fun e w' => e = .returned (.tuple #[.slice none 0 0, .nilIface]) ∧
      ∃ R', WAt B0 a (M + 2) p g R' D size (from_ : Int) 0 (beginD D.data.toList d (from_ : Int)) w' ∧ OutG g R R' w w' := by
  have HSEG := Lib.hid (segments_calls (D := D) hDs hDn w hA (by omega) hC [] [] hl rfl (by simp) (by simp))
  have HA := Lib.hid hA
  have HC := Lib.hid hC
  have HBG : Hid (∀ w', Below w.heap.size w w' → Calls Tryz.prog 94 #[.pointer (some ⟨g, 0, none⟩), .int .i64 (from_ : Int)] w' fun e w2 => e = .returned .nilIface ∧ ∃ R', WAt B0 a (M + 2) p g R' D size (from_ : Int) 0 (beginD D.data.toList d (from_ : Int)) w2 ∧ OutG g R R' w' w2) := Lib.hid fun w' h =>
    begin_calls from_ hf hDs w' (HA.out.below HC.out h) hM HC.out hcr hsn
  obtain ⟨fz, hfz⟩ : ∃ z : Int, (from_ : Int) = z := ⟨_, rfl⟩
  rw [hfz] at HBG ⊢
  clear hA hC hl hDn hDs hM hcr hsn hfz hf
  go_enter Tryz.func88, Tryz.ntmps88
  go_wp2_with fail
  refine HSEG.out.mono ?_
  rintro e w2 ⟨X, c, rfl, hx2, hxf, hb2⟩
  have HA2 := Lib.hid (HA.out.below HC.out hb2)
  have HB2 := Lib.hid hb2
  have HBG2 := Lib.hid (HBG.out w2 hb2)
  have c3 := HA2.out.lg.c3
  have elz : (([] : List Nat).length) = 0 := rfl
  clear hx2 hxf hb2
  rw [elz]
  go_wp2_with fail
  go_loopg [27] 0 (fun gh s27 wr => gh = 0 ∧ s27 = .int .i64 0 ∧ w2 = wr)
  case atStart => exact ⟨rfl, rfl, rfl⟩
  case round =>
    obtain ⟨_, rfl, rfl⟩ := hrel
    have el : decide ((0 : Int) < ((0 : Nat) : Int)) = false := by decide
    go_wp2_with fail
    refine HBG2.out.mono ?_
    rintro e w3 ⟨rfl, R', hA3, hog⟩
    have HA3 := Lib.hid hA3
    have HOG := Lib.hid ((OutG.of (Out.of_below HB2.out)).trans hog)
    clear hA3 hog
    go_wp2_with fail
    go_ret2
    exact ⟨rfl, R', HA3.out, HOG.out⟩
set_option maxRecDepth 100000 in
set_option maxHeartbeats 8000000 in
theorem recover_bad (hDs : D.size ≤ 1000) (hDn : nameB D.data.toList = true) (from_ : Int) (w : World) (hA : WAt B0 a M p g R D size last used d w) (hM : M + 2 ≤ 536870912) (hC : SCon B0 a)
    (le : List En) (hl : listD d D.data.toList = (le, 0)) (ns : List Nat) (hns : entSegs le ns) (hr : ∀ n ∈ ns, 1 ≤ n ∧ n ≤ 99999999) (hz : ns.length ≤ 99999999)
    (C : Nat → Txt) (hall : ∀ n ∈ ns, allD d (wP D.data.toList (n : Int)) = (C n, 0)) (hlen : ∀ n ∈ ns, (C n).length ≤ 67108864) (htot : ((ns.flatMap fun n => (rdT (C n)).1).length ≤ 1073741824))
    (hfrom : ∀ n ∈ ns, from_ ≤ (n : Int)) (j nb : Nat) (hj : ns[j]? = some nb) (hj2 : j + 1 < ns.length) (hclean : ∀ i n, i < j → ns[i]? = some n → (rdT (C n)).2.2 = 0) (hbad : (rdT (C nb)).2.2 ≠ 0) :
    Calls Tryz.prog 88 #[.pointer (some ⟨g, 0, none⟩), .int .i64 from_] w fun e w' => ∃ q P R', e = .returned (.tuple #[.slice none 0 0, .iface 51 (.pointer (some ⟨q, 0, none⟩))]) ∧ P.data.toList = wP D.data.toList (nb : Int) ∧
      Blk w' q 54 #[.string P, .int .i64 ((rdT (C nb)).2.2 : Int)] ∧ w.heap.size ≤ q ∧ OutG g R R' w w' := by
  have HSEG := Lib.hid (segments_calls (D := D) hDs hDn w hA (by omega) hC le ns hl hns hr hz)
  have HA := Lib.hid hA
  have HC := Lib.hid hC
  have HJ := Lib.hid (⟨hj, hj2, hbad⟩ : _ ∧ _ ∧ _)
  have HP := Lib.hid (⟨hr, hall, hlen, hfrom⟩ : _ ∧ _ ∧ _ ∧ _)
  have HTOT := Lib.hid htot
  have HCLN := Lib.hid hclean
  have HZ := Lib.hid (⟨hz, hDs, hM⟩ : _ ∧ _ ∧ _)
  clear hA hC hl hns hr hall hlen hfrom hclean htot hj hj2 hbad hDn hz hDs hM
  obtain ⟨ft, hft⟩ : ∃ ft : Nat → List Txt, (fun n => (rdT (C n)).1) = ft := ⟨_, rfl⟩
  have HFT := Lib.hid hft
  have HTOT2 : Hid ((ns.flatMap ft).length ≤ 1073741824) := Lib.hid (by rw [← hft]; exact HTOT.out)
  clear hft
  go_enter Tryz.func88, Tryz.ntmps88
  go_wp2_with fail
  refine HSEG.out.mono ?_
  rintro e w2 ⟨X, c, rfl, hx2, hxf, hb2⟩
  obtain ⟨n, hn⟩ : ∃ n, ns.length = n := ⟨_, rfl⟩
  rw [hn] at hx2 ⊢
  have hnz : n ≤ 99999999 := by have := HZ.out.1; omega
  have HN := Lib.hid hn
  have HX2 := Lib.hid hx2
  have HXF := Lib.hid hxf
  have HB2 := Lib.hid hb2
  have HA2 := Lib.hid (HA.out.below HC.out hb2)
  have HXR : Hid (∀ x, X = some x → R x.block = 0 ∧ x.block ≠ g) := Lib.hid fun x hx => ⟨HA.out.dk.new (hxf x hx), by have := hxf x hx; have := HA.out.lg.lt; omega⟩
  clear hx2 hxf hb2 hn
  go_wp2_with fail
  go_loopg [8, 27] n (fun gh s8 s27 wr => ∃ (i : Nat) (A : Option Addr) (m cc : Nat), i + gh = n ∧ i ≤ j ∧ s27 = .int .i64 (i : Int) ∧ s8 = .slice A m cc ∧ m = ((ns.take i).flatMap ft).length ∧
    wr.ownsRow w2.heap.size 9 1 (.slice A m cc) m (((ns.take i).flatMap ft).map txtV) ∧ OutG g R R w2 wr ∧ (∀ b, (Value.slice A m cc).ownBlock = some b → R b = 0) ∧ ∃ l u, WAt B0 a M p g R D size l u d wr)
  case atStart =>
    exact ⟨0, none, 0, 0, by omega, Nat.zero_le _, rfl, rfl, rfl, World.ownsRow_nil _ _ _ _, OutG.refl _ _ _, (fun b h => by cases h), last, used, HA2.out⟩
  case round =>
    obtain ⟨i, A, m, cc, hig, hij, rfl, rfl, hm, hown, hog, hob, la, us, hAr⟩ := hrel
    have HIG := Lib.hid (⟨hig, hm, hij⟩ : _ ∧ _ ∧ _)
    have HOWN := Lib.hid hown
    have HOG := Lib.hid hog
    have HOB := Lib.hid hob
    have hi : i < n := by have := HJ.out.2.1; have := HN.out; omega
    clear hig hm hown hog hob hij
    have el : decide ((i : Int) < (n : Int)) = true := by simp; omega
    have e0 : (i : Int) < (n : Int) := by omega
    have e1 : (0 : Int) ≤ (i : Int) := by omega
    have HAR := Lib.hid hAr
    have hil : i < ns.length := by rw [HN.out]; exact hi
    obtain ⟨y, hy⟩ : ∃ y, ns[i]? = some y := ⟨_, List.getElem?_eq_getElem hil⟩
    have hym : y ∈ ns := List.mem_of_getElem? hy
    obtain ⟨b, off, rfl, hbl, x0⟩ := (HX2.out.outg HOG.out HXR.out).at_ hy
    unfold natI at x0
    have hyr := HP.out.1 y hym
    have HRD := Lib.hid (read_calls y hyr.2 HZ.out.2.1 wr hAr (by have := HZ.out.2.2; omega) HC.out (C y) (HP.out.2.1 y hym) (by have := HP.out.2.2.1 y hym; omega))
    have d2 : decide ((y : Int) < from_) = false := by have := HP.out.2.2.2 y hym; simp; omega
    have HY := Lib.hid (⟨hy, hym, hyr⟩ : _ ∧ _ ∧ _)
    have HFY : Hid ((rdT (C y)).1 = ft y) := Lib.hid (by rw [← HFT.out])
    have htk : (ns.take (i + 1)).flatMap ft = (ns.take i).flatMap ft ++ ft y := by
      rw [List.take_add_one, hy, List.flatMap_append]
      simp
    have HTK := Lib.hid htk
    have hsz : ((ns.take i).flatMap ft).length + (ft y).length ≤ 1073741824 := by
      have h1 := HTOT2.out
      have h2 : ((ns.take (i + 1)).flatMap ft).length ≤ (ns.flatMap ft).length := by
        conv => rhs; rw [← List.take_append_drop (i + 1) ns, List.flatMap_append, List.length_append]
        exact Nat.le_add_right _ _
      rw [htk, List.length_append] at h2
      omega
    have HSZ := Lib.hid hsz
    have HEI : Hid ((rdT (C y)).2.2 ≠ 0 → i = j ∧ y = nb) := Lib.hid fun h => by
      have h1 : ¬ i < j := fun h2 => h (HCLN.out i y h2 hy)
      have h3 : i = j := by have := HIG.out.2.2; omega
      refine ⟨h3, ?_⟩
      have h4 := HJ.out.1
      rw [← h3, hy] at h4
      exact Option.some.inj h4
    have HEJ : Hid (i = j → (rdT (C y)).2.2 ≠ 0) := Lib.hid fun h => by
      have h4 := HJ.out.1
      rw [← h, hy] at h4
      have h5 := Option.some.inj h4
      rw [h5]
      exact HJ.out.2.2
    obtain ⟨r, hrr⟩ : ∃ r, rdT (C y) = r := ⟨_, rfl⟩
    rw [hrr] at HRD HFY HEI HEJ
    have HRR := Lib.hid hrr
    obtain ⟨r1, at_, ec⟩ := r
    dsimp only at HRD HFY HEI HEJ
    obtain ⟨nr, hnr⟩ : ∃ k, r1.length = k := ⟨_, rfl⟩
    have HNR := Lib.hid hnr
    rw [hnr] at HRD
    obtain ⟨yz, hyz⟩ : ∃ z : Int, (y : Int) = z := ⟨_, rfl⟩
    have HYZ := Lib.hid hyz
    rw [hyz] at HRD x0 d2
    obtain ⟨ez, hez⟩ : ∃ z : Int, (ec : Int) = z := ⟨_, rfl⟩
    have HEZ := Lib.hid hez
    rw [hez] at HRD
    obtain ⟨az, haz⟩ : ∃ z : Int, (at_ : Int) = z := ⟨_, rfl⟩
    have HAZ := Lib.hid haz
    rw [haz] at HRD
    clear hAr hy hym hyr htk hsz hrr hnr hyz hez haz hil
    go_wp2_with fail
    refine HRD.out.mono ?_
    rintro e w3 ⟨Y, cy, rfl, hsy, hy0, hyf, hb3⟩
    have HSY := Lib.hid (⟨hsy, hy0, hyf⟩ : _ ∧ _ ∧ _)
    have HB3 := Lib.hid hb3
    have HA3 := Lib.hid (HAR.out.below HC.out hb3)
    clear hsy hy0 hyf hb3 x0
    by_cases hec : ec = 0
    · have hez0 : ez = 0 := by rw [← HEZ.out, hec]; rfl
      subst hez0
      have hij : i + 1 ≤ j := by
        have h1 := HIG.out.2.2
        have h2 : i ≠ j := fun h => HEJ.out h hec
        omega
      have HIJ := Lib.hid hij
      clear hij
      have hbase := HOG.out.size
      have hs3 := HB3.out.size
      have hown7 : w3.ownsRow w2.heap.size 9 1 (.slice A m cc) m (((ns.take i).flatMap ft).map txtV) := ownsRow.same HOWN.out fun k hk => HB3.out.block k (World.ownsRow.lt HOWN.out k hk).2
      have hml : m = ((ns.take i).flatMap ft).length := HIG.out.2.1
      have hfy := HFY.out
      have hrl : (ft y).length = nr := by rw [← hfy]; exact HNR.out
      have hsz := HSZ.out
      obtain ⟨v8, w8, hrun8, hown8, hgr8, hbl8⟩ := run_textsB (.slice A m cc) m _ w2.heap.size Y nr cy r1 w3 hown7 (by omega) HSY.out.1 HSY.out.2.1 (by omega)
      have e8 : ((ns.take i).flatMap ft).map txtV ++ r1.map txtV = ((ns.take (i + 1)).flatMap ft).map txtV := by rw [HTK.out, List.map_append, hfy]
      rw [e8] at hown8
      obtain ⟨A8, c8, rfl, _, _, _⟩ := Strs.of_own hown8 (by rw [HTK.out, List.length_append, ← hml, hrl])
      have hog7 : OutG g R R w2 w3 := HOG.out.trans (OutG.of (Out.of_below HB3.out))
      have hog8 : OutG g R R w2 w8 := ⟨hgr8.os.trans hog7.os, hgr8.tape.trans hog7.tape, hgr8.output.trans hog7.output, Nat.le_trans hog7.size hgr8.size,
        fun k hk hr hkg => (hgr8.block k (by have := hog7.size; omega) (fun e => by have := (World.ownsRow.lt hown7 k e.symm).1; omega)).trans (hog7.block k hk hr hkg), hog7.old⟩
      have hb8 : Below w2.heap.size w3 w8 := ⟨hgr8.os, hgr8.tape, hgr8.output, hgr8.size, fun k hk => hgr8.block k (by omega) (fun e => by have := (World.ownsRow.lt hown7 k e.symm).1; omega)⟩
      have hB0 : B0 ≤ w2.heap.size := HA2.out.en.hb
      have hgl2 : g < w2.heap.size := HA2.out.lg.lt
      have HA8 : Hid (WAt B0 a M p g R D size la us d w8) := Lib.hid ⟨HA3.out.dk.grow hgr8 HOB.out, Blk.grown HA3.out.lg hgr8 (fun e => by have := (World.ownsRow.lt hown7 g e.symm).1; omega), HA3.out.r0, HA3.out.gb, HA3.out.en.below HC.out (hb8.mono hB0), HA3.out.f6.below (hb8.mono hB0)⟩
      have hob8 : ∀ b, (Value.slice A8 (m + nr) c8).ownBlock = some b → R b = 0 := fun b hb => by
        rcases hbl8 with h | h
        · exact HOB.out b (by rw [← h]; exact hb)
        · rw [h] at hb
          injection hb with hb
          exact HA3.out.dk.new (by omega)
      have HOWN8 := Lib.hid hown8
      have HOG8 := Lib.hid hog8
      have HOB8 := Lib.hid hob8
      have HRUN8 := Lib.hid hrun8
      have HMR : Hid (m + nr = ((ns.take (i + 1)).flatMap ft).length) := Lib.hid (by rw [HTK.out, List.length_append, ← hml, hrl])
      clear hown7 hml hfy hrl hsz hrun8 hown8 hgr8 hbl8 e8 hog7 hog8 hb8 hB0 hgl2 hob8 hbase hs3
      have c3 := HA8.out.lg.c3
      have c4 := HA8.out.lg.c4
      have f3 : w8.frozen? ⟨g, 3, none⟩ = false := Blk.frozen HA8.out.lg 3
      have f4 : w8.frozen? ⟨g, 4, none⟩ = false := Blk.frozen HA8.out.lg 4
      go_wp2_with (at_builtin; refine wpList_append_knownW rfl _ _ 78 rfl rfl rfl HRUN8.out ?_)
      have HA9 := Lib.hid (HA8.out.set HC.out yz az)
      have HOG9 := Lib.hid (HOG8.out.trans ((OutG.set g R w8 3 (.int .i64 yz)).trans (OutG.set g R _ 4 (.int .i64 az))))
      have hgn : (Value.slice A8 (m + nr) c8).ownBlock ≠ some g := fun h => by
        have := (World.ownsRow.lt HOWN8.out g h).1
        have := HA2.out.lg.lt
        omega
      have HOWN9 : Hid (((w8.setCell ⟨g, 3, none⟩ (.int .i64 yz)).setCell ⟨g, 4, none⟩ (.int .i64 az)).ownsRow w2.heap.size 9 1 (.slice A8 (m + nr) c8) (m + nr) (((ns.take (i + 1)).flatMap ft).map txtV)) := Lib.hid (ownsRow.same HOWN8.out fun k hk => by
        have hkg : k ≠ g := fun e => hgn (by rw [← e]; exact hk)
        rw [Below.heap_setCell _ _ _ _ hkg, Below.heap_setCell _ _ _ _ hkg])
      go_roundg (gk - 1)
      case measure => have := HIG.out; omega
      case rel => exact ⟨i + 1, A8, m + nr, c8, by have := HIG.out; omega, HIJ.out, by go_num, rfl, HMR.out, HOWN9.out, HOG9.out, HOB8.out, yz, az, HA9.out⟩
    · obtain ⟨hin, hyl⟩ := HEI.out hec
      have z1 : ez ≠ 0 := by have := HEZ.out; omega
      have z2 : (ez == 0) = false := by simpa using z1
      have z3 : (ez != 0) = true := by simpa using z1
      have z4 : decide (ez = 0) = false := by simpa using z1
      have z5 : decide ((i : Int) < (n : Int) - 1) = true := by have := HJ.out.2.1; have := HN.out; simp; omega
      have z6 : (i : Int) < (n : Int) - 1 := by have := HJ.out.2.1; have := HN.out; omega
      obtain ⟨P, hP⟩ := wP_bytes D (y : Int)
      have hyr := HY.out.2.2
      have HPA := Lib.hid (HA3.out.path HC.out (y : Int) (by omega) (by omega) HZ.out.2.1 P hP)
      rw [HYZ.out] at HPA
      have HPT := Lib.hid (HPA.out ⟨w3, Below.refl _ _⟩)
      dsimp only at HPT
      have HPL : Hid (P.data.toList = wP D.data.toList (nb : Int)) := Lib.hid (by rw [hP, hyl])
      have HEC : Hid (((rdT (C nb)).2.2 : Int) = ez) := Lib.hid (by rw [← hyl, HRR.out]; exact HEZ.out)
      clear hP hyl hin
      go_wp2_with fail
      refine HPT.out.mono ?_
      rintro _ w4 ⟨rfl, hb4⟩
      have HOG4 : Hid (OutG g R R w2 w4) := Lib.hid ((HOG.out.trans (OutG.of (Out.of_below HB3.out))).trans (OutG.of (Out.of_below hb4)))
      clear hb4
      go_wp2_with fail
      go_ret2
      have hb5 : Below w4.heap.size w4 (w4.alloc (.cells #[.string P, .int .i64 ez] 54)) := (Below.refl _ _).alloc (Nat.le_refl _) _
      refine ⟨w4.heap.size, P, R, rfl, HPL.out, ?_, ?_, (OutG.of (Out.of_below HB2.out)).trans (HOG4.out.trans (OutG.of (Out.of_below hb5)))⟩
      · rw [HEC.out]
        exact Blk.new _ _ _
      · have := HB2.out.size
        have := HOG4.out.size
        omega
end
end Go.Proofs.YtfpgbhimgfdddaaGreatDoor

/-! ## WalWalksG -/
/- The walks of layer 16 (wal): Open. -/
namespace Go.Proofs.YtfpgbhimgfdddaaGreatDoor
open Go.RowKit Go.Shelf Go.Sort
attribute [local go_sem ↓] Go.wp_at_zero Go.wp_at_succ
attribute [local go_sem] Later.cell Later.frozen

section
variable {B0 M p g : Nat} {a : Nat → Addr} {R R' R'' : Nat → Nat} {d : Ds} {w w' w'' : World} {D : ByteArray} {size last used : Int}
theorem OutG.out (h : OutG g R' R'' w' w'') (h0 : Out R R' w w') (hg : w.heap.size ≤ g) : Out R R'' w w'' :=
  ⟨h.os.trans h0.os, h.tape.trans h0.tape, h.output.trans h0.output, Nat.le_trans h0.size h.size,
   fun k hk hr => (h.block k (Nat.lt_of_lt_of_le hk h0.size) (h0.old k hk hr) (by omega)).trans (h0.block k hk hr),
   fun k hk hr => h.old k (Nat.lt_of_lt_of_le hk h0.size) (h0.old k hk hr)⟩
set_option maxHeartbeats 1000000 in
theorem open_nil (D : ByteArray) (from_ size : Int) (w : World) :
    Calls Tryz.prog 32 #[.pointer none, .string D, .int .i64 from_, .int .i64 size] w fun e w' => e = .returned (.tuple #[.pointer none, .slice none 0 0, .iface 26 (.int .i64 1)]) ∧ Below w.heap.size w w' := by
  go_enter Tryz.func32, Tryz.ntmps32
  go_wp2_with fail
  go_ret3
  exact ⟨rfl, Below.refl _ _⟩
set_option maxHeartbeats 1000000 in
theorem open_limits (D : ByteArray) (from_ size : Int) (hb : from_ < 1 ∨ 99999999 < from_ ∨ size < 1) (p : Nat) (w : World) :
    Calls Tryz.prog 32 #[.pointer (some ⟨p, 0, none⟩), .string D, .int .i64 from_, .int .i64 size] w fun e w' => e = .returned (.tuple #[.pointer none, .slice none 0 0, .iface 26 (.int .i64 2)]) ∧ Below w.heap.size w w' := by
  by_cases h1 : from_ < 1
  · have d1 : decide (from_ < 1) = true := by simpa using h1
    go_enter Tryz.func32, Tryz.ntmps32
    go_wp2_with fail
    go_ret3
    exact ⟨rfl, Below.refl _ _⟩
  · have d1 : decide (from_ < 1) = false := by simpa using h1
    by_cases h2 : 99999999 < from_
    · have d2 : decide (99999999 < from_) = true := by simpa using h2
      go_enter Tryz.func32, Tryz.ntmps32
      go_wp2_with fail
      go_ret3
      exact ⟨rfl, Below.refl _ _⟩
    · have d2 : decide (99999999 < from_) = false := by simpa using h2
      have h3 : size < 1 := by omega
      have d3 : decide (size < 1) = true := by simpa using h3
      go_enter Tryz.func32, Tryz.ntmps32
      go_wp2_with fail
      go_ret3
      exact ⟨rfl, Below.refl _ _⟩
set_option maxRecDepth 100000 in
set_option maxHeartbeats 4000000 in
theorem open_new (hDs : D.size ≤ 1000) (hDn : nameB D.data.toList = true) (from_ : Nat) (hf1 : 1 ≤ from_) (hf : from_ ≤ 99999999) (hs1 : 1 ≤ size) (w : World) (hD : Dk B0 M w R p d) (hM : M + 4 ≤ 536870912) (hC : SCon B0 a) (hE : SEnv B0 a w) (h6 : Fail6 B0 a w)
    (d1 d2 : Ds) (hmk : mkdirD d D.data.toList = (0, d1)) (hsy : syncNamesD d1 = (0, d2))
    (hl : listD d2 D.data.toList = ([], 0)) (hcr : (createD d2 (wP D.data.toList (from_ : Int))).1 = 0) (hsn : (syncNamesD (createD d2 (wP D.data.toList (from_ : Int))).2).1 = 0) :
    Calls Tryz.prog 32 #[.pointer (some ⟨p, 0, none⟩), .string D, .int .i64 (from_ : Int), .int .i64 size] w fun e w' => ∃ g R', e = .returned (.tuple #[.pointer (some ⟨g, 0, none⟩), .slice none 0 0, .nilIface]) ∧
      w.heap.size ≤ g ∧ WAt B0 a (M + 4) p g R' D size (from_ : Int) 0 (beginD D.data.toList d2 (from_ : Int)) w' ∧ Out R R' w w' := by
  have HMK := Lib.hid (hD.mkdir (by omega) hE.hb hE.e.f D (by omega))
  rw [hmk] at HMK
  have HD := Lib.hid hD
  have HC := Lib.hid hC
  have HE := Lib.hid hE
  have H6 := Lib.hid h6
  have HSY := Lib.hid hsy
  have HMM := Lib.hid hM
  have HRC : Hid (∀ (w' : World) (g : Nat) (R : Nat → Nat), WAt B0 a (M + 2) p g R D size 0 0 d2 w' → Calls Tryz.prog 88 #[.pointer (some ⟨g, 0, none⟩), .int .i64 (from_ : Int)] w' fun e w2 => e = .returned (.tuple #[.slice none 0 0, .nilIface]) ∧ ∃ R', WAt B0 a (M + 4) p g R' D size (from_ : Int) 0 (beginD D.data.toList d2 (from_ : Int)) w2 ∧ OutG g R R' w' w2) := Lib.hid fun w' g R h =>
    recover_new hDs hDn from_ hf w' h (by omega) hC hl hcr hsn
  have z1 : decide ((from_ : Int) < 1) = false := by simp; omega
  have z2 : decide ((99999999 : Int) < (from_ : Int)) = false := by simp; omega
  have z3 : decide (size < 1) = false := by simp; omega
  obtain ⟨fz, hfz⟩ : ∃ z : Int, (from_ : Int) = z := ⟨_, rfl⟩
  rw [hfz] at HRC z1 z2 ⊢
  clear hmk hD hC hE h6 hsy hl hcr hsn hfz hf hf1 hs1 hDs hDn hM
  go_enter Tryz.func32, Tryz.ntmps32
  go_wp2_with fail
  refine HMK.out.mono ?_
  rintro e w1 ⟨v1, R1, rfl, hv1, hd1, ho1⟩
  obtain rfl := hv1.z
  have HD1 := Lib.hid hd1
  have HO1 := Lib.hid ho1
  have HE1 := Lib.hid (HE.out.out HC.out HD.out ho1)
  have HSN := Lib.hid (HD1.out.syncNames (by have := HMM.out; omega) HE1.out.hb HE1.out.e.f)
  rw [HSY.out] at HSN
  clear hv1 hd1 ho1
  go_wp2_with fail
  refine HSN.out.mono ?_
  rintro e w2 ⟨v2, R2, rfl, hv2, hd2, ho2⟩
  obtain rfl := hv2.z
  have HD2 := Lib.hid hd2
  have HO2 := Lib.hid (HO1.out.trans ho2)
  have HE2 := Lib.hid (HE1.out.out HC.out HD1.out ho2)
  clear hv2 hd2 ho2
  go_upto_region 13 with fail
  obtain ⟨g, hg⟩ : ∃ g, w2.heap.size = g := ⟨_, rfl⟩
  obtain ⟨w3, hw3⟩ : ∃ x, w2.alloc (.cells #[.pointer (some ⟨p, 0, none⟩), .string D, .int .i64 size, .int .i64 0, .int .i64 0] 175) = x := ⟨_, rfl⟩
  have hb3 : Below w2.heap.size w2 w3 := by rw [← hw3]; exact (Below.refl _ _).alloc (Nat.le_refl _) _
  have HA3 : Hid (WAt B0 a (M + 2) p g R2 D size 0 0 d2 w3) := Lib.hid ⟨HD2.out.below hb3, by rw [← hw3, ← hg]; exact Blk.new _ _ _, HD2.out.new (by omega), by have := HE2.out.hb; omega, HE2.out.low HC.out hb3, H6.out.below ((HO2.out.below HE.out.hb HD.out.low).trans (hb3.mono HE2.out.hb))⟩
  have HO3 := Lib.hid (HO2.out.trans (Out.of_below (R := R2) hb3))
  have HGL : Hid (w.heap.size ≤ g) := Lib.hid (by rw [← hg]; exact HO2.out.size)
  rw [hw3, hg]
  clear hw3 hg hb3
  have HR3 := Lib.hid (HRC.out w3 g R2 HA3.out)
  go_wp2_with fail
  refine HR3.out.mono ?_
  rintro e w4 ⟨rfl, R4, hA4, hog4⟩
  have HA4 := Lib.hid hA4
  have HO4 := Lib.hid (hog4.out HO3.out HGL.out)
  clear hA4 hog4
  go_wp2_with fail
  go_ret3
  exact ⟨g, R4, rfl, HGL.out, HA4.out, HO4.out⟩
end
end Go.Proofs.YtfpgbhimgfdddaaGreatDoor

/-! ## WalWalksH -/
/- The walks of layer 16 (wal): Open of a directory that is there. -/
namespace Go.Proofs.YtfpgbhimgfdddaaGreatDoor
open Go.RowKit Go.Shelf Go.Sort
attribute [local go_sem ↓] Go.wp_at_zero Go.wp_at_succ
attribute [local go_sem] Later.cell Later.frozen

section
variable {B0 M p g : Nat} {a : Nat → Addr} {R R' R'' : Nat → Nat} {d : Ds} {w w' w'' : World} {D : ByteArray} {size last used : Int}
set_option maxRecDepth 100000 in
set_option maxHeartbeats 4000000 in
theorem open_there (good : Bool) (Q : Value → Value → Nat → (Nat → Nat) → World → World → Prop) (hDs : D.size ≤ 1000) (from_ : Nat) (hf1 : 1 ≤ from_) (hf : from_ ≤ 99999999) (hs1 : 1 ≤ size) (w : World) (hD : Dk B0 M w R p d) (hM : M + 4 ≤ 536870912) (hC : SCon B0 a) (hE : SEnv B0 a w) (h6 : Fail6 B0 a w)
    (hmk : mkdirD d D.data.toList = (5, d))
    (hK : ∀ (w' : World) (g : Nat) (R : Nat → Nat), WAt B0 a (M + 1) p g R D size 0 0 d w' → Calls Tryz.prog 88 #[.pointer (some ⟨g, 0, none⟩), .int .i64 (from_ : Int)] w' fun e w2 => ∃ u v, e = .returned (.tuple #[u, v]) ∧ (good = true → v = .nilIface) ∧ (good = false → ∃ t x, v = .iface t x) ∧ Q u v g R w' w2) :
    Calls Tryz.prog 32 #[.pointer (some ⟨p, 0, none⟩), .string D, .int .i64 (from_ : Int), .int .i64 size] w fun e w' => ∃ g u v R1 w1, e = .returned (.tuple #[if good then .pointer (some ⟨g, 0, none⟩) else .pointer none, if good then u else .slice none 0 0, v]) ∧
      w.heap.size ≤ g ∧ Q u v g R1 w1 w' ∧ Out R R1 w w1 ∧ w.heap.size ≤ w1.heap.size := by
  have HMK := Lib.hid (hD.mkdir (by omega) hE.hb hE.e.f D (by omega))
  rw [hmk] at HMK
  have HD := Lib.hid hD
  have HC := Lib.hid hC
  have HE := Lib.hid hE
  have H6 := Lib.hid h6
  have HMM := Lib.hid hM
  have HK := Lib.hid hK
  have z1 : decide ((from_ : Int) < 1) = false := by simp; omega
  have z2 : decide ((99999999 : Int) < (from_ : Int)) = false := by simp; omega
  have z3 : decide (size < 1) = false := by simp; omega
  obtain ⟨fz, hfz⟩ : ∃ z : Int, (from_ : Int) = z := ⟨_, rfl⟩
  rw [hfz] at HK z1 z2 ⊢
  clear hmk hD hC hE h6 hK hfz hf hf1 hs1 hDs hM
  go_enter Tryz.func32, Tryz.ntmps32
  go_wp2_with fail
  refine HMK.out.mono ?_
  rintro e w1 ⟨v1, R1, rfl, hv1, hd1, ho1⟩
  have HE1 := Lib.hid (HE.out.out HC.out HD.out ho1)
  obtain ⟨q, op, path, rfl, hq1, hq2⟩ := hv1.some_ (show (5 : Nat) ≠ 0 by decide)
  have HIS := Lib.hid (is_calls q 5 5 op path w1 hq1 HE1.out.e.s HC.out.ap (by decide) (by decide) (by decide) (by decide))
  have HD1 := Lib.hid hd1
  have HO1 := Lib.hid ho1
  have kg : w1.cell? ⟨1, 0, none⟩ = some (failV a 5) := (HE1.out.e.f 5 (by decide)).2
  unfold failV at kg HIS
  clear hd1 ho1 hq1 hq2 hv1
  go_wp2_with fail
  refine HIS.out.mono ?_
  rintro e w2 ⟨rfl, rfl⟩
  simp only [decide_true]
  clear kg
  go_upto_region 13 with fail
  obtain ⟨g, hg⟩ : ∃ g, w1.heap.size = g := ⟨_, rfl⟩
  obtain ⟨w3, hw3⟩ : ∃ x, w1.alloc (.cells #[.pointer (some ⟨p, 0, none⟩), .string D, .int .i64 size, .int .i64 0, .int .i64 0] 175) = x := ⟨_, rfl⟩
  have hb3 : Below w1.heap.size w1 w3 := by rw [← hw3]; exact (Below.refl _ _).alloc (Nat.le_refl _) _
  have HA3 : Hid (WAt B0 a (M + 1) p g R1 D size 0 0 d w3) := Lib.hid ⟨HD1.out.below hb3, by rw [← hw3, ← hg]; exact Blk.new _ _ _, HD1.out.new (by omega), by have := HE1.out.hb; omega, HE1.out.low HC.out hb3, H6.out.below ((HO1.out.below HE.out.hb HD.out.low).trans (hb3.mono HE1.out.hb))⟩
  have HO3 := Lib.hid (HO1.out.trans (Out.of_below (R := R1) hb3))
  have HGL : Hid (w.heap.size ≤ g) := Lib.hid (by rw [← hg]; exact HO1.out.size)
  rw [hw3, hg]
  clear hw3 hg hb3
  have HR3 := Lib.hid (HK.out w3 g R1 HA3.out)
  go_wp2_with fail
  refine HR3.out.mono ?_
  rintro e w4 ⟨u, v, rfl, hv1, hv2, hq4⟩
  have HQ4 := Lib.hid hq4
  cases good with
  | true =>
    obtain rfl := hv1 rfl
    clear hv1 hv2 hq4
    go_wp2_with fail
    go_ret3
    first | exact ⟨g, u, .nilIface, R1, w3, rfl, HGL.out, HQ4.out, HO3.out, HO3.out.size⟩ | exact ⟨g, u, .nilIface, rfl, HGL.out, R1, w3, HQ4.out, HO3.out, HO3.out.size⟩
  | false =>
    obtain ⟨t, x, rfl⟩ := hv2 rfl
    clear hv1 hv2 hq4
    go_wp2_with fail
    go_ret3
    first | exact ⟨g, u, _, R1, w3, rfl, HGL.out, HQ4.out, HO3.out, HO3.out.size⟩ | exact ⟨g, u, _, rfl, HGL.out, R1, w3, HQ4.out, HO3.out, HO3.out.size⟩
end
end Go.Proofs.YtfpgbhimgfdddaaGreatDoor

/-! ## WalWalksI -/
/- The walks of layer 16 (wal): Rotate, Append. -/
namespace Go.Proofs.YtfpgbhimgfdddaaGreatDoor
open Go.RowKit Go.Shelf Go.Sort
attribute [local go_sem ↓] Go.wp_at_zero Go.wp_at_succ
attribute [local go_sem] Later.cell Later.frozen

section
variable {B0 M p g : Nat} {a : Nat → Addr} {R R' R'' : Nat → Nat} {d : Ds} {w w' w'' : World} {D : ByteArray} {size last used : Int}
set_option maxHeartbeats 1000000 in
theorem rotate_nil (w : World) :
    Calls Tryz.prog 42 #[.pointer none] w fun e w' => e = .returned (.tuple #[.int .i64 0, .iface 26 (.int .i64 1)]) ∧ Below w.heap.size w w' := by
  go_enter Tryz.func42, Tryz.ntmps42
  go_wp2_with fail
  go_ret2
  exact ⟨rfl, Below.refl _ _⟩
set_option maxHeartbeats 1000000 in
theorem wappend_nil (S : ByteArray) (w : World) :
    Calls Tryz.prog 34 #[.pointer none, .string S] w fun e w' => e = .returned (.iface 26 (.int .i64 1)) ∧ Below w.heap.size w w' := by
  go_enter Tryz.func34, Tryz.ntmps34
  go_wp2_with fail
  go_ret
  exact ⟨rfl, Below.refl _ _⟩
set_option maxHeartbeats 1000000 in
theorem drop_nil (n : Int) (w : World) :
    Calls Tryz.prog 43 #[.pointer none, .int .i64 n] w fun e w' => e = .returned (.iface 26 (.int .i64 1)) ∧ Below w.heap.size w w' := by
  go_enter Tryz.func43, Tryz.ntmps43
  go_wp2_with fail
  go_ret
  exact ⟨rfl, Below.refl _ _⟩
set_option maxHeartbeats 1000000 in
theorem wappend_form (w : World) :
    Calls Tryz.prog 34 #[.pointer (some ⟨g, 0, none⟩), .string ⟨#[]⟩] w fun e w' => e = .returned (.iface 26 (.int .i64 21)) ∧ Below w.heap.size w w' := by
  have HF := Lib.hid (frame_nil w)
  go_enter Tryz.func34, Tryz.ntmps34
  go_wp2_with fail
  refine HF.out.mono ?_
  rintro _ w1 ⟨rfl, hb1⟩
  go_wp2_with fail
  go_ret
  exact ⟨rfl, hb1⟩
/-- Rotate of a segment in which nothing stands. -/
theorem rotate_same (w : World) (hL : LogAt w g p D size last 0) :
    Calls Tryz.prog 42 #[.pointer (some ⟨g, 0, none⟩)] w fun e w' => e = .returned (.tuple #[.int .i64 last, .nilIface]) ∧ w = w' := by
  have c3 := hL.c3
  have c4 := hL.c4
  clear hL
  go_enter Tryz.func42, Tryz.ntmps42
  go_wp2_with fail
  go_ret2
  exact ⟨rfl, rfl⟩
set_option maxRecDepth 100000 in
set_option maxHeartbeats 4000000 in
theorem rotate_on (n u : Nat) (hn : n + 1 ≤ 99999999) (hu : 0 < u) (hDs : D.size ≤ 1000) (w : World) (hA : WAt B0 a M p g R D size (n : Int) (u : Int) d w) (hM : M + 2 ≤ 536870912) (hC : SCon B0 a)
    (hcr : (createD d (wP D.data.toList ((n + 1 : Nat) : Int))).1 = 0) (hsn : (syncNamesD (createD d (wP D.data.toList ((n + 1 : Nat) : Int))).2).1 = 0) :
    Calls Tryz.prog 42 #[.pointer (some ⟨g, 0, none⟩)] w fun e w' => e = .returned (.tuple #[.int .i64 ((n + 1 : Nat) : Int), .nilIface]) ∧ ∃ R', WAt B0 a (M + 2) p g R' D size ((n + 1 : Nat) : Int) 0 (beginD D.data.toList d ((n + 1 : Nat) : Int)) w' ∧ OutG g R R' w w' := by
  have HB := Lib.hid (begin_calls (n + 1) hn hDs w hA hM hC hcr hsn)
  have c3 := hA.lg.c3
  have c4 := hA.lg.c4
  obtain ⟨nz, hnz⟩ : ∃ z : Int, (n : Int) = z := ⟨_, rfl⟩
  obtain ⟨mz, hmz⟩ : ∃ z : Int, ((n + 1 : Nat) : Int) = z := ⟨_, rfl⟩
  obtain ⟨uz, huz⟩ : ∃ z : Int, (u : Int) = z := ⟨_, rfl⟩
  have e1 : nz + 1 = mz := by omega
  have e2 : IntKind.i64.wrap (nz + 1) = mz := by rw [e1]; exact IntWalk.i64_in _ (by omega)
  have u1 : uz ≠ 0 := by omega
  have u2 : (uz == 0) = false := by simpa using u1
  have u4 : decide (uz = 0) = false := by simpa using u1
  have n1 : nz ≠ 99999999 := by omega
  have n2 : (nz == 99999999) = false := by simpa using n1
  have n4 : decide (nz = 99999999) = false := by simpa using n1
  have n5 : -9223372036854775808 ≤ nz + 1 ∧ nz + 1 ≤ 9223372036854775807 := by omega
  rw [hnz] at c3
  rw [huz] at c4
  rw [hmz] at HB ⊢
  clear hA hC hcr hsn hnz hmz huz hn hu
  go_enter Tryz.func42, Tryz.ntmps42
  go_wp2_with fail
  refine HB.out.mono ?_
  rintro _ w1 ⟨rfl, R1, hA1, hog⟩
  have HA1 := Lib.hid hA1
  have HOG := Lib.hid hog
  clear hA1 hog c3 c4
  have c3 := HA1.out.lg.c3
  go_wp2_with fail
  go_ret2
  exact ⟨rfl, R1, HA1.out, HOG.out⟩
end
end Go.Proofs.YtfpgbhimgfdddaaGreatDoor
