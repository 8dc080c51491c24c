/- The walks of layer 16 (wal): the number of a name, the segments of a directory. -/
import Derived.Test.YtfpgbhimgfdddaaGreatDoorWalWalksB
import Derived.Test.YtfpgbhimgfdddaaGreatDoorWalNum
import Derived.Test.YtfpgbhimgfdddaaGreatDoorShelfB
import Derived.Test.YtfpgbhimgfdddaaGreatDoorWak15
import Derived.Lib.SmallJoins
set_option linter.unusedVariables false
set_option linter.unusedSimpArgs false
namespace Go.Proofs.YtfpgbhimgfdddaaGreatDoor
open Go.RowKit Go.Shelf Go.Sort
attribute [local go_sem ↓] Go.wp_at_zero Go.wp_at_succ
attribute [local go_sem] Later.cell Later.frozen

set_option maxRecDepth 100000 in
set_option maxHeartbeats 1000000 in
theorem wnumber_calls (n : Nat) (h1 : 1 ≤ n) (h2 : n ≤ 99999999) (S : ByteArray) (hS : S.data.toList = nameT sS (n : Int)) (w : World) (hT : PowTab w) (hg : 9 < w.heap.size) :
    Calls Tryz.prog 133 #[.string S] w fun e w' => e = .returned (.int .i64 (n : Int)) ∧ Below w.heap.size w w' := by
  obtain ⟨X, hX⟩ : ∃ X : ByteArray, (⟨(Lib.trimPrefix S.data.toList (⟨#[115]⟩ : ByteArray).data.toList).toArray⟩ : ByteArray) = X := ⟨_, rfl⟩
  have hXl : X.data.toList = padN 8 n := by rw [← hX, hS]; exact trim_name h1 h2
  obtain ⟨Y, hY⟩ : ∃ Y : ByteArray, (⟨(Lib.trimLeftB X.data.toList 48).toArray⟩ : ByteArray) = Y := ⟨_, rfl⟩
  have hYl : Y.data.toList = Lib.decDigits n := by rw [← hY, hXl]; exact trim_pad h1 h2
  have hYs : Y.size ≤ 18 := by
    rw [← text_size3, hYl]
    have := (pad_dec 7 n (by omega)).1
    omega
  have hNS : (⟨(nameT sS (n : Int)).toArray⟩ : ByteArray) = S := bytes_eq (by rw [hS])
  have H1 := Lib.hid (fun w => Tryz.strings_TrimPrefix S ⟨#[115]⟩ w)
  have H2 := Lib.hid (fun w => Any.strings_TrimLeft_one Tryz.lays161 X 48 (by decide) w)
  have H3 := Lib.hid (fun w => Any.strconv_Atoi Tryz.lays172 Y (n : Int) hYs (by rw [hYl]; exact atoi_dec h1) w)
  have H4 := Lib.hid (fun (w' : World) (hb : Below w.heap.size w w') => wname_calls (n : Int) (by omega) (by omega) w' (hT.below hg hb))
  rw [hX] at H1
  rw [hY] at H2
  rw [hNS] at H4
  obtain ⟨nz, hnz⟩ : ∃ z : Int, (n : Int) = z := ⟨_, rfl⟩
  rw [hnz] at H3 H4 ⊢
  clear hX hXl hY hYl hYs hNS hS hT hg hnz h1 h2
  go_enter Tryz.func133, Tryz.ntmps133
  go_wp2_with fail
  refine (H1.out w).mono ?_
  rintro _ w1 ⟨rfl, rfl⟩
  go_wp2_with fail
  refine (H2.out w1).mono ?_
  rintro _ w2 ⟨rfl, rfl⟩
  go_wp2_with fail
  refine (H3.out w2).mono ?_
  rintro _ w3 ⟨rfl, t, rfl⟩
  have hb3 : Below w2.heap.size w2 (Lib.bytesWorld w2 (Tryz.lays172_ren.t 5) t) := Go.Joins.below_bytesWorld _ _ _ _ (Nat.le_refl _)
  obtain ⟨w3, hw3⟩ : ∃ x, Lib.bytesWorld w2 (Tryz.lays172_ren.t 5) t = x := ⟨_, rfl⟩
  rw [hw3] at hb3 ⊢
  clear hw3
  have HB3 := Lib.hid hb3
  have H5 := Lib.hid (H4.out w3 hb3)
  clear hb3
  go_wp2_with fail
  refine H5.out.mono ?_
  rintro _ w4 ⟨rfl, hb4⟩
  have HB4 := Lib.hid (then_ HB3.out hb4)
  clear hb4
  go_wp2_with fail
  go_ret
  exact ⟨rfl, HB4.out⟩

/-- The entries of a directory of segments. -/
def entSegs (l : List En) (ns : List Nat) : Prop := l.map (·.name) = ns.map fun n => nameT sS ((n : Nat) : Int)
/-- Ints as elements of a slice. -/
def natI (n : Nat) : Value := .int .i64 (n : Int)
def Nats (w : World) (A : Option Addr) (n : Nat) (l : List Nat) : Prop := Elems w w.heap.size 1 (fun x => [natI x]) A n l
section
variable {B0 M p g : Nat} {a : Nat → Addr} {R R' : Nat → Nat} {d : Ds} {w w' : World} {D : ByteArray} {size last used : Int}
theorem natI_flat : ∀ l : List Nat, l.map natI = l.flatMap fun x => [natI x]
  | [] => rfl
  | x :: l => by rw [List.map_cons, List.flatMap_cons, natI_flat l]; rfl
theorem LogAt.two (h : LogAt w g p D size last used) : w.cell? ⟨g, 0, none⟩ = some (.pointer (some ⟨p, 0, none⟩)) ∧ w.cell? ⟨g, 1, none⟩ = some (.string D) := ⟨h.c0, h.c1⟩
theorem wents_at {w : World} {A : Option Addr} {n : Nat} {l : List En} (h : Elems w w.heap.size 3 encE A n l) {i : Nat} (hi : i < n) : ∃ b off, A = some ⟨b, off, none⟩ ∧ b < w.heap.size ∧ w.cell? ⟨b, off + i * 3, none⟩ = some (txtV l[i]!.name) ∧ w.cell? ⟨b, off + i * 3 + 1, none⟩ = some (.bool l[i]!.dir) ∧ w.cell? ⟨b, off + i * 3 + 2, none⟩ = some (.int .i64 (l[i]!.size : Int)) := by
  obtain ⟨b, off, e, hb, hc⟩ := h.2 (by omega)
  have hl : i < l.length := by have : l.length = n := Elems.len h; omega
  have hx := hc i l[i]! (by rw [getElem!_pos l i hl, List.getElem?_eq_getElem hl])
  exact ⟨b, off, e, hb, by simpa using hx 0 _ rfl, by simpa using hx 1 _ rfl, by simpa using hx 2 _ rfl⟩
theorem Dk.listAt (h : Dk B0 M w R p d) (hM : M ≤ 536870912) (hB : B0 ≤ w.heap.size) (hF : Fails B0 a w) (S : ByteArray) (hS0 : S.data.toList ≠ []) (hS : S.size ≤ 1073741824) (l : List En) (hl : listD d S.data.toList = (l, 0)) :
    Calls Tryz.prog 29 #[.pointer (some ⟨p, 0, none⟩), .string S] w fun e w' => ∃ X c, e = .returned (.tuple #[.slice X l.length c, .nilIface]) ∧ Elems w' w'.heap.size 3 encE X l.length l ∧ Below w.heap.size w w' := by
  obtain ⟨A, hc, rfl⟩ := h.ex
  refine (list_dir (a := a) S hS0 w hc (h.wf.fit hM) hS hB hF (fun i => by have := h.wf.nl hM i; omega)).mono ?_
  rintro e w' ⟨v, u, rfl, h1, h2, h3⟩
  rw [hl] at h1 h2
  obtain rfl : u = .nilIface := h1
  obtain ⟨X, c, rfl, he, _, _⟩ := Elems.of_own (enc := encE) (xs := l) (fun _ _ => rfl) rfl h2 rfl
  exact ⟨X, c, rfl, he, h3⟩
set_option maxRecDepth 100000 in
set_option maxHeartbeats 8000000 in
theorem segments_calls (hDs : D.size ≤ 1000) (hDn : nameB D.data.toList = true) (w : World) (hA : WAt B0 a M p g R D size last used d w) (hM : M ≤ 536870912) (hC : SCon B0 a) (l : List En) (ns : List Nat) (hl : listD d D.data.toList = (l, 0)) (hns : entSegs l ns) (hr : ∀ n ∈ ns, 1 ≤ n ∧ n ≤ 99999999) (hz : ns.length ≤ 99999999) :
    Calls Tryz.prog 95 #[.pointer (some ⟨g, 0, none⟩)] w fun e w' => ∃ X c, e = .returned (.tuple #[.slice X ns.length c, .nilIface]) ∧ Nats w' X ns.length ns ∧ (∀ x, X = some x → w.heap.size ≤ x.block) ∧ Below w.heap.size w w' := by
  obtain ⟨i0, hi0, hz0, hz1, hz2⟩ := info_parts info_int3
  have hD0 : D.data.toList ≠ [] := by
    intro h
    rw [h] at hDn
    simp [nameB] at hDn
  have hc0 := hA.lg.c0
  have hc1 := hA.lg.c1
  have hgl := hA.lg.lt
  have HA := Lib.hid hA
  have HC := Lib.hid hC
  have HLI : Hid (∀ x : Later w, Calls Tryz.prog 29 #[.pointer (some ⟨p, 0, none⟩), .string D] x.w fun e w' => ∃ X c, e = .returned (.tuple #[.slice X l.length c, .nilIface]) ∧ Elems w' w'.heap.size 3 encE X l.length l ∧ Below x.w.heap.size x.w w') := Lib.hid fun x =>
    ((HA.out.below HC.out x.h).dk).listAt hM (HA.out.below HC.out x.h).en.hb (HA.out.below HC.out x.h).en.e.f D hD0 (by omega) l hl
  have hll : l.length = ns.length := by
    have := congrArg List.length hns
    simpa using this
  have HNM : Hid (∀ (i : Nat) (y : En), l[i]? = some y → ∃ n : Nat, ns[i]? = some n ∧ y.name = nameT sS (n : Int) ∧ 1 ≤ n ∧ n ≤ 99999999) := Lib.hid fun i y hy => by
    have hi : i < ns.length := by rw [← hll]; exact (List.getElem?_eq_some_iff.1 hy).1
    have h1 := congrArg (·[i]?) hns
    simp only [List.getElem?_map, hy, List.getElem?_eq_getElem hi, Option.map_some, Option.some.injEq] at h1
    exact ⟨ns[i], List.getElem?_eq_getElem hi, h1, hr _ (List.getElem_mem hi)⟩
  rw [hll] at HLI
  have HZ := Lib.hid hz
  have HLL := Lib.hid hll
  clear hA hC hl hns hr hDn hD0 hDs hll hM
  go_enter Tryz.func95, Tryz.ntmps95
  go_upto_region 1 with fail
  have hbd : Below w.heap.size w w.drew := (Below.refl _ _).drew
  have HL1 := Lib.hid (HLI.out ⟨w.drew, hbd⟩)
  dsimp only at HL1
  have HBD := Lib.hid hbd
  clear hbd
  have hq0 : LogAt w.drew g p D size last used := HA.out.lg.below HBD.out
  go_region_held3 (fun w' => w'.cell? ⟨g, 0, none⟩ = some (.pointer (some ⟨p, 0, none⟩)) ∧ w'.cell? ⟨g, 1, none⟩ = some (.string D)) (first | exact LogAt.two hq0 | exact LogAt.two hq2 | go_keep)
    ((go_at_call 29; refine HL1.out.mono ?_; rintro e w2 ⟨X, c, rfl, hx2, hb2⟩; have hq2 := LogAt.below hq0 hb2))
  clear hq0 hq2
  clear hc0 hc1 hgl
  have HX2 := Lib.hid hx2
  have HB2 := Lib.hid (HBD.out.trans (hb2.mono HBD.out.size))
  obtain ⟨n, hn⟩ : ∃ n, ns.length = n := ⟨_, rfl⟩
  have HN := Lib.hid hn
  rw [hn] at HX2 HLL ⊢
  have hz' : n ≤ 99999999 := by have := HZ.out; omega
  clear hx2 hb2 hn hz
  go_wp2_with fail
  go_loopg [6, 24] n (fun gh s6 s24 wr => ∃ (i : Nat) (A : Option Addr) (cc : Nat), i + gh = n ∧ s24 = .int .i64 (i : Int) ∧ s6 = .slice A i cc ∧ wr.ownsRow w2.heap.size 3 1 (.slice A i cc) i ((ns.take i).map natI) ∧ Below w2.heap.size w2 wr)
  case atStart => exact ⟨0, none, 0, by omega, rfl, rfl, World.ownsRow_nil _ _ _ _, Below.refl _ _⟩
  case round =>
    obtain ⟨i, A, cc, hig, rfl, rfl, hown, hB⟩ := hrel
    have HIG := Lib.hid hig
    have HB := Lib.hid hB
    have HOWN := Lib.hid hown
    clear hig hB hown
    by_cases hi : i < n
    · have el : decide ((i : Int) < (n : Int)) = true := by simp; omega
      have e0 : (i : Int) < (n : Int) := by omega
      have e1 : (0 : Int) ≤ (i : Int) := by omega
      have hi' : i < l.length := by rw [HLL.out]; exact hi
      obtain ⟨b, off, rfl, hbl, x0, x1, x2⟩ := wents_at ((HX2.out.below HB.out).more HB.out.size) hi
      obtain ⟨nm, hnm, hyn, hn1, hn2⟩ := HNM.out i _ (List.getElem?_eq_getElem hi')
      have hgi : l[i]! = l[i] := getElem!_pos l i hi'
      obtain ⟨N, hN⟩ : ∃ N : ByteArray, (⟨(l[i]!.name).toArray⟩ : ByteArray) = N := ⟨_, rfl⟩
      have hNl : N.data.toList = nameT sS (nm : Int) := by rw [← hN, ← hyn, hgi]
      have hNv : txtV l[i]!.name = .string N := by rw [← hN]; rfl
      obtain ⟨bd, hbd⟩ : ∃ b, l[i]!.dir = b := ⟨_, rfl⟩
      obtain ⟨sz, hsz⟩ : ∃ z : Int, (l[i]!.size : Int) = z := ⟨_, rfl⟩
      rw [hNv] at x0
      rw [hbd] at x1
      rw [hsz] at x2
      clear hgi hN hyn hNv hbd hsz
      have HNl := Lib.hid (⟨hNl, hn1, hn2, hnm⟩ : _ ∧ _ ∧ _ ∧ _)
      clear hNl hn1 hn2 hnm
      go_upto_region 6 with fail
      obtain ⟨U, hU⟩ : ∃ Q, wr.heap.size = Q := ⟨_, rfl⟩
      obtain ⟨w7, hw7⟩ : ∃ X, wr.alloc (.cells #[.string N, .bool bd, .int .i64 sz] 167) = X := ⟨_, rfl⟩
      have hb7 : Below wr.heap.size wr w7 := by rw [← hw7]; exact (Below.refl _ _).alloc (Nat.le_refl _) _
      have kx : Blk w7 U 167 #[.string N, .bool bd, .int .i64 sz] := by rw [← hw7, ← hU]; exact Blk.new wr _ _
      rw [hw7, hU]
      have m0 : w7.cell? ⟨U, 0, none⟩ = some (.string N) := kx.cell 0
      have HB7 := Lib.hid (HB.out.trans (hb7.mono HB.out.size))
      have HW7 := Lib.hid hb7
      clear hw7 hU kx hb7 x0 x1 x2
      have HE7 := Lib.hid ((HA.out.below HC.out (HB2.out.trans (HB7.out.mono HB2.out.size))).en)
      have HNU := Lib.hid (wnumber_calls nm HNl.out.2.1 HNl.out.2.2.1 N HNl.out.1 w7 HE7.out.pow (Nat.lt_of_lt_of_le HC.out.pow HE7.out.hb))
      go_wp2_with fail
      refine HNU.out.mono ?_
      rintro _ w8 ⟨rfl, hb8⟩
      have hown8 : w8.ownsRow w2.heap.size 3 1 (.slice A i cc) i ((ns.take i).map natI) := ownsRow.same HOWN.out fun k hk => (HW7.out.trans (hb8.mono HW7.out.size)).block k (World.ownsRow.lt HOWN.out k hk).2
      have hb8' : Below w2.heap.size w2 w8 := HB7.out.trans (hb8.mono HB7.out.size)
      have HN1 := HNl.out.2.1
      have dk : decide ((0 : Int) < (nm : Int)) = true := by simp; omega
      obtain ⟨nz, hnz⟩ : ∃ z : Int, (nm : Int) = z := ⟨_, rfl⟩
      rw [hnz] at dk ⊢
      have HNZ := Lib.hid hnz
      clear hb8 hnz HN1 m0
      go_wp2_with (at_builtin; refine wpList_append_own_at _ rfl _ _ 58 rfl w2.heap.size 3 i0 (.int .i64 0) 1 8 Tryz.underlying58 hi0 hz0 hz1 hz2 rfl (by decide) _ _ _ rfl (hown8.alloc _) ⟨w8.heap.size, 0, none⟩ 1 1 [.int .i64 nz] rfl rfl ?p1 ?p2 ?p3 ?p4 ?p5 ?_)
      case p1 => exact news_of_blk (l := [.int .i64 nz]) (Blk.new w8 _ _)
      case p2 => intro u hu; rw [List.mem_singleton.1 hu]; rfl
      case p3 => unfold maxLen; omega
      case p4 => omega
      case p5 => have := hb8'.size; simp; omega
      intro v' w9 hown9 hgrow _ _
      have hall : w8.grownBy w9 (Value.slice A i cc).ownBlock := (World.grownBy_alloc w8 _ _).trans hgrow
      have hB9 : Below w2.heap.size w2 w9 := hb8'.trans ⟨hall.os, hall.tape, hall.output, hall.size, fun k hk => hall.block k (by have := hb8'.size; omega) (fun e => by have := (World.ownsRow.lt hown8 k e.symm).1; omega)⟩
      have e1 : (ns.take (i + 1)).map natI = (ns.take i).map natI ++ [.int .i64 nz] := by
        rw [List.take_add_one, HNl.out.2.2.2, List.map_append, ← HNZ.out]
        rfl
      replace hown9 : w9.ownsRow w2.heap.size 3 1 v' (i + 1) ((ns.take (i + 1)).map natI) := by
        rw [e1, List.map_take]
        exact hown9
      obtain ⟨A2, c2, rfl, _, _, _⟩ := Elems.of_own (enc := fun x => [natI x]) (xs := ns.take (i + 1)) (fun _ _ => rfl) (natI_flat _) hown9 (by rw [List.length_take, HN.out]; omega)
      have HO9 := Lib.hid hown9
      have HB9 := Lib.hid hB9
      clear hown9 hB9 hall hgrow hown8 hb8' e1 dk
      go_wp2_with fail
      go_roundg (gk - 1)
      case measure => have := HIG.out; omega
      case rel => exact ⟨i + 1, A2, c2, by have := HIG.out; omega, by go_num, rfl, HO9.out, HB9.out⟩
    · have el : decide ((i : Int) < (n : Int)) = false := by simp; omega
      have hi3 : i = n := by have := HIG.out; omega
      subst hi3
      go_wp2_with fail
      go_ret2
      have htk : ns.take i = ns := List.take_of_length_le (by rw [HN.out]; exact Nat.le_refl _)
      have ho := HOWN.out
      rw [htk] at ho
      obtain ⟨A2, c2, e2, h2, h3, _⟩ := Elems.of_own (enc := fun x => [natI x]) (xs := ns) (fun _ _ => rfl) (natI_flat ns) ho HN.out
      injection e2 with e3 e4 e5
      subst e3
      rw [HN.out]
      exact ⟨A, cc, rfl, h2, fun x hx => by have := h3 x hx; have := HB2.out.size; omega, HB2.out.trans (HB.out.mono HB2.out.size)⟩
end
end Go.Proofs.YtfpgbhimgfdddaaGreatDoor
