/- How long a tree's text is; the statement RegexGroups, walked. -/
import Derived.Test.YtlmnincllndpnaaShow
import Derived.Test.YtlmnincllndpnaaDerLawC
namespace Go.Proofs.Ytlmnincllndpnaa
open Go.RowKit
attribute [local go_sem ↓] Go.wp_at_zero Go.wp_at_succ
attribute [local go_sem] Later.cell Later.frozen

/-! ### how long a tree's text is -/
def Tk.base : Tk → Nat
  | .branches => 1
  | .strokes t => (showT t).length
  | .pieces none => 1
  | .pieces (some t) => (showT t).length
  | .piece => 0
  | .signs t => (showT t).length
  | .atom => 0
theorem sign_len {b : UInt8} {t u : Tr} (h : signOf b t = some u) : (showT u).length = (showT t).length + 1 := by
  unfold signOf at h
  split at h
  · injection h with h; subst h; simp [showT]
  · split at h
    · injection h with h; subst h; simp [showT]
    · split at h
      · injection h with h; subst h; simp [showT]
      · cases h
theorem class_len {n : Nat} {l l' : List UInt8} {t : Tr} (h : classF n l = some (.ok (t, l'))) : (showT t).length ≤ 2000 := by
  unfold classF at h
  dsimp only at h
  split at h
  · cases h
  · cases h
  · split at h
    · injection h with h; injection h with h; injection h with h _; subst h; exact strT_len _
    · cases h
theorem run_show : ∀ {n : Nat} {k : Tk} {l l' : List UInt8} {d : Nat} {t : Tr}, run n k l d = some (.ok (t, l')) → (showT t).length + 3 * k.least + 2003 * l'.length ≤ k.base + 2003 * l.length
  | 0, _, _, _, _, _, h => by simp [run] at h
  | n + 1, .branches, l, l', d, t, h => by
    rw [run] at h
    rcases Res.then_some h with ⟨t1, l1, h1, h2⟩ | ⟨e, h1, h2⟩
    · have a := run_show h1; have b := run_show h2; simp only [Tk.least, Tk.base] at *; omega
    · cases h2
  | n + 1, .strokes t, l, l', d, _, h => by
    rw [run] at h
    split at h
    · rename_i hc
      have hlt : l.tail.length + 1 = l.length := by cases l with | nil => simp at hc | cons c l => simp
      rcases Res.then_some h with ⟨t1, l1, h1, h2⟩ | ⟨e, h1, h2⟩
      · have a := run_show h1
        have b := run_show h2
        have e : (showT (Tr.alt t t1)).length = (showT t).length + (showT t1).length + 3 := by simp [showT]; omega
        simp only [Tk.least, Tk.base] at *
        omega
      · cases h2
    · injection h with h; injection h with h; injection h with h1 h2; subst h1 h2; simp [Tk.least, Tk.base]
  | n + 1, .pieces none, [], l', d, _, h => by
    rw [run] at h; injection h with h; injection h with h; injection h with h1 h2; subst h1 h2; simp [Tk.least, Tk.base, emptyOf, showT]
  | n + 1, .pieces (some t), [], l', d, _, h => by
    rw [run] at h; injection h with h; injection h with h; injection h with h1 h2; subst h1 h2; simp [Tk.least, Tk.base, emptyOf]
  | n + 1, .pieces none, b :: l, l', d, _, h => by
    rw [run] at h
    split at h
    · cases h
    · split at h
      · injection h with h; injection h with h; injection h with h1 h2; subst h1 h2; simp [Tk.least, Tk.base, emptyOf, showT]
      · rcases Res.then_some h with ⟨t1, l1, h1, h2⟩ | ⟨e, h1, h2⟩
        · have a := run_show h1; have b := run_show h2; simp only [Tk.least, Tk.base, catOf] at *; omega
        · cases h2
  | n + 1, .pieces (some t), b :: l, l', d, _, h => by
    rw [run] at h
    split at h
    · cases h
    · split at h
      · injection h with h; injection h with h; injection h with h1 h2; subst h1 h2; simp [Tk.least, Tk.base, emptyOf]
      · rcases Res.then_some h with ⟨t1, l1, h1, h2⟩ | ⟨e, h1, h2⟩
        · have a := run_show h1
          have b := run_show h2
          have e : (showT (Tr.cat t t1)).length = (showT t).length + (showT t1).length + 2 := by simp [showT]; omega
          simp only [Tk.least, Tk.base, catOf] at *
          omega
        · cases h2
  | n + 1, .piece, l, l', d, _, h => by
    rw [run] at h
    rcases Res.then_some h with ⟨t1, l1, h1, h2⟩ | ⟨e, h1, h2⟩
    · have a := run_show h1; have b := run_show h2; simp only [Tk.least, Tk.base] at *; omega
    · cases h2
  | n + 1, .signs t, [], l', d, _, h => by
    rw [run] at h; injection h with h; injection h with h; injection h with h1 h2; subst h1 h2; simp [Tk.least, Tk.base]
  | n + 1, .signs t, b :: l, l', d, _, h => by
    rw [run] at h
    split at h
    · rename_i u hs
      have a := run_show h
      have e := sign_len hs
      simp only [Tk.least, Tk.base, List.length_cons] at *
      omega
    · injection h with h; injection h with h; injection h with h1 h2; subst h1 h2; simp [Tk.least, Tk.base]
  | n + 1, .atom, [], l', d, _, h => by simp [run] at h
  | n + 1, .atom, b :: l, l', d, _, h => by
    have hcls : ∀ v : Nat, (showT (.cls v)).length ≤ 2000 := strT_len
    rw [run_atom] at h
    split at h
    · cases h
    · split at h
      · split at h
        · rcases Res.then_some h with ⟨t1, l1, h1, h2⟩ | ⟨e, h1, h2⟩
          · have a := run_show h1
            split at h2
            · cases h2
            · injection h2 with h2; injection h2 with h2; injection h2 with e1 e2; subst e1 e2
              simp only [Tk.least, Tk.base, List.length_cons] at *; omega
          · cases h2
        · cases h
      · split at h
        · have a := classF_len h
          have b := class_len h
          simp only [Tk.least, Tk.base, List.length_cons] at *; omega
        · split at h
          · injection h with h; injection h with h; injection h with h1 h2; subst h1 h2
            have := hcls (putR 0 0 255)
            simp only [Tk.least, Tk.base, List.length_cons] at *; omega
          · split at h
            · split at h
              · cases h
              · rename_i c l2
                injection h with h; injection h with h; injection h with h1 h2; subst h1 h2
                have := hcls (putR 0 c.toNat c.toNat)
                simp only [Tk.least, Tk.base, List.length_cons] at *; omega
            · injection h with h; injection h with h; injection h with h1 h2; subst h1 h2
              have := hcls (putR 0 b.toNat b.toNat)
              simp only [Tk.least, Tk.base, List.length_cons] at *; omega
theorem parses_show {l : List UInt8} {t : Tr} (h : Parses l (.ok t)) : (showT t).length ≤ 130000 := by
  obtain ⟨hl, n, l', h⟩ := h
  have := run_show h
  simp only [Tk.least, Tk.base] at this
  omega

set_option maxHeartbeats 400000 in
theorem depth_calls (s : ByteArray) (w : World) (hs : s.size ≤ 28) :
    Calls Try.prog 23 #[.string s] w fun e w' => e = .returned (.int .i64 (s.data.toList.count 40 : Nat)) ∧ w = w' := by
  have hl : s.data.toList.length = s.size := rfl
  go_enter Try.func23, Try.ntmps23
  go_wp2_with fail
  go_loopg [3, 4] s.size (fun g s3 s4 wr => wr = w ∧ ∃ k : Nat, k + g = s.size ∧ s3 = .int .i64 ((s.data.toList.take k).count 40 : Nat) ∧ s4 = .int .i64 (k : Nat))
  case atStart => exact ⟨rfl, 0, by omega, rfl, rfl⟩
  case round =>
    obtain ⟨rfl, k, hk, rfl, rfl⟩ := hrel
    have HK := Lib.hid hk
    clear hk
    by_cases hlt : k < s.size
    · have hle : (s.data.toList.take k).count 40 ≤ k := Nat.le_trans List.count_le_length (List.length_take_le _ _)
      have hsn : s.data.toList.take (k + 1) = s.data.toList.take k ++ [s[k]] := by
        rw [List.take_succ_eq_append_getElem (by rw [hl]; exact hlt)]; rfl
      have HSN := Lib.hid hsn
      obtain ⟨n, hn⟩ : ∃ n, (s.data.toList.take k).count 40 = n := ⟨_, rfl⟩
      rw [hn] at hle ⊢
      have HN := Lib.hid hn
      clear hsn hn hl
      by_cases hb : s[k] = 40
      · have e1 : ((s[k].toNat : Int) == 40) = true := by rw [hb]; rfl
        have HB : Hid (s[k] = 40) := hb
        clear hb
        go_wp2_with fail
        go_roundg (gk - 1)
        case measure => have := HK.out; omega
        case rel =>
          refine ⟨rfl, k + 1, by have := HK.out; omega, ?_, by go_num⟩
          rw [HSN.out, List.count_append, HN.out, HB.out]
          simp
      · have e1 : ((s[k].toNat : Int) == 40) = false := u8_ne (c := 40) hb
        have HB : Hid (¬ s[k] = 40) := hb
        clear hb
        go_wp2_with fail
        go_roundg (gk - 1)
        case measure => have := HK.out; omega
        case rel =>
          refine ⟨rfl, k + 1, by have := HK.out; omega, ?_, by go_num⟩
          rw [HSN.out, List.count_append, HN.out, List.count_singleton, if_neg (by simpa using HB.out)]
          simp
    · go_wp2_with fail
      go_ret
      exact ⟨by rw [List.take_of_length_le (by rw [hl]; omega)]; rfl, rfl⟩

set_option maxHeartbeats 400000 in
theorem shows_calls (s want : ByteArray) (t : Tr) (hP : Parses s.data.toList (.ok t)) (hw : showT t = want.data.toList) (w : World) :
    Calls Try.prog 24 #[.string s, .string want] w fun e w' => e = .returned (.bool true) ∧ Below w.heap.size w w' := by
  have hz := parses_show hP
  have heq : ((⟨(showT t).toArray⟩ : ByteArray).toList == want.toList) = true := by
    rw [ByteArray.toList_eq, ByteArray.toList_eq, beq_iff_eq, ← hw]
  have HEQ := Lib.hid heq
  have HP := Lib.hid hP
  clear heq hP hw
  go_enter Try.func24, Try.ntmps24
  go_wp2_with fail
  refine (parse_calls s _ HP.out w).mono ?_
  rintro e w1 ⟨p, rfl, ht, hb1⟩
  obtain ⟨T, hT⟩ : ∃ T, (⟨(showT t).toArray⟩ : ByteArray) = T := ⟨_, rfl⟩
  have hcall := show_calls t p w1 ht.is (by omega)
  rw [hT] at hcall
  have heq := HEQ.out
  rw [hT] at heq
  have HC := Lib.hid hcall
  clear hcall hT
  go_wp2_with fail
  refine HC.out.mono ?_
  rintro e w2 ⟨rfl, hb2⟩
  go_wp2_with fail
  go_ret
  exact ⟨rfl, then_ hb1 hb2⟩

set_option maxRecDepth 100000 in
set_option maxHeartbeats 2000000 in
theorem regexGroups_calls (p q : ByteArray) (w : World) (hp : p.size ≤ 140737488351232) (hq : q.size ≤ 140737488351232) :
    Calls Try.prog 9 #[.string p, .string q] w fun e w' => e = .returned (.bool true) ∧ Below w.heap.size w w' := by
  go_enter Try.func9, Try.ntmps9
  go_wp2_with fail
  refine (wakes06_calls w).mono ?_
  rintro e w1 ⟨rfl, hb1⟩
  go_upto_region 3 with fail
  go_cut [0, 1] (fun s0 s1 wz => Below w1.heap.size w1 wz ∧ ∃ P Q : ByteArray, s0 = .string P ∧ s1 = .string Q ∧ P.size ≤ 28 ∧ Q.size ≤ 28)
  case first =>
    go_quiet (fail)
    go_wp2_with fail
    go_meet
    refine ⟨below_drewN (Below.refl _ _) _, _, _, rfl, rfl, ?_, ?_⟩
    · have := cut_le p (min (p.size : Int) 28).toNat
      omega
    · have := cut_le q (min (q.size : Int) 28).toNat
      omega
  case rest =>
    obtain ⟨hb2, P, Q, rfl, rfl, hP, hQ⟩ := hcut
    obtain ⟨w2, rfl⟩ : ∃ x, x = wc := ⟨_, rfl⟩
    have hB := then_ hb1 hb2
    clear hb1 hb2
    go_wp2_with fail
    refine (parse_opt P w2).mono ?_
    rintro e w3 ⟨o1, c1, rfl, h1, hb⟩
    have hB := then_ hB hb
    clear hb
    go_wp2_with fail
    refine (parse_opt Q w3).mono ?_
    rintro e w4 ⟨o2, c2, rfl, h2, hb⟩
    have h1 := h1.keep (below_keeps hb)
    have hB := then_ hB hb
    clear hb
    go_upto_region 6 with fail
    rcases h1 with ⟨rfl, ta, pa, rfl, hta, hpa⟩ | ⟨hc, rfl, _⟩
    rotate_left
    · have hc' : (c1 != 0) = true := by simp only [bne, hc, Bool.not_false]
      go_wp2_with fail
      go_ret
      exact ⟨rfl, hB⟩
    rcases h2 with ⟨rfl, tb, pb, rfl, htb, hpb⟩ | ⟨hc, rfl, _⟩
    rotate_left
    · have hc' : (c2 != 0) = true := by simp only [bne, hc, Bool.not_false]
      go_wp2_with fail
      go_ret
      exact ⟨rfl, hB⟩
    obtain ⟨n1, hn1⟩ : ∃ n, P.data.toList.count 40 = n := ⟨_, rfl⟩
    obtain ⟨n2, hn2⟩ : ∃ n, Q.data.toList.count 40 = n := ⟨_, rfl⟩
    have hd1 := depth_calls P w4 hP
    have hd2 := depth_calls Q w4 hQ
    rw [hn1] at hd1
    rw [hn2] at hd2
    have HD1 := Lib.hid hd1
    have HD2 := Lib.hid hd2
    have HN1 := Lib.hid hn1
    have HN2 := Lib.hid hn2
    clear hd1 hd2 hn1 hn2
    go_wp2_with fail
    refine HD1.out.mono ?_
    rintro e w5 ⟨rfl, rfl⟩
    by_cases hx1 : 15 < n1
    · go_wp2_with fail
      go_ret
      exact ⟨rfl, hB⟩
    go_wp2_with fail
    refine HD2.out.mono ?_
    rintro e w5 ⟨rfl, rfl⟩
    by_cases hx2 : 15 < n2
    · go_wp2_with fail
      go_ret
      exact ⟨rfl, hB⟩
    have fa : Fits P.data.toList ta := by
      rcases paren (says_of_parses hpa) with f | ⟨h, _⟩
      · exact f
      · have := HN1.out; omega
    have fb : Fits Q.data.toList tb := by
      rcases paren (says_of_parses hpb) with f | ⟨h, _⟩
      · exact f
      · have := HN2.out; omega
    have la := parses_show hpa
    have lb := parses_show hpb
    have lP : P.data.toList.length = P.size := rfl
    have lQ : Q.data.toList.length = Q.size := rfl
    have r1 : Parses ((⟨#[40]⟩ : ByteArray) ++ P ++ ⟨#[41]⟩).data.toList (.ok ta) := by
      refine parses_of_says (l' := []) ?_ ?_
      · have := group_one fa; simpa using this
      · simp; omega
    have r2 : Parses (P ++ ⟨#[124, 40]⟩ ++ Q ++ ⟨#[41]⟩).data.toList (.ok (.alt ta tb)) := by
      refine parses_of_says (l' := []) ?_ ?_
      · have := strokes_more (says_of_parses hpa) fb; simpa using this
      · simp; omega
    have r3 : Parses ((⟨#[40]⟩ : ByteArray) ++ P ++ ⟨#[41, 40]⟩ ++ Q ++ ⟨#[41]⟩).data.toList (.ok (.cat ta tb)) := by
      refine parses_of_says (l' := []) ?_ ?_
      · have := group_cat fa fb; simpa using this
      · simp; omega
    have r4 : Parses ((⟨#[40]⟩ : ByteArray) ++ P ++ ⟨#[41, 42]⟩).data.toList (.ok (.star ta)) := by
      refine parses_of_says (l' := []) ?_ ?_
      · have := group_sign fa (b := 42) (by rfl); simpa using this
      · simp; omega
    have r5 : Parses ((⟨#[40]⟩ : ByteArray) ++ P ++ ⟨#[41, 43, 63]⟩).data.toList (.ok (.quest (.plus ta))) := by
      refine parses_of_says (l' := []) ?_ ?_
      · have := group_sign2 fa (b := 43) (c := 63) (by rfl) (by rfl); simpa using this
      · simp; omega
    obtain ⟨X, hX⟩ : ∃ X, (⟨(showT ta).toArray⟩ : ByteArray) = X := ⟨_, rfl⟩
    obtain ⟨Y, hY⟩ : ∃ Y, (⟨(showT tb).toArray⟩ : ByteArray) = Y := ⟨_, rfl⟩
    have dX : X.data.toList = showT ta := by rw [← hX]
    have dY : Y.data.toList = showT tb := by rw [← hY]
    have lX : X.size ≤ 130000 := by have : X.data.toList.length = X.size := rfl; rw [dX] at this; omega
    have lY : Y.size ≤ 130000 := by have : Y.data.toList.length = Y.size := rfl; rw [dY] at this; omega
    have s1 := show_calls ta pa w4 hta (by omega)
    rw [hX] at s1
    have s2 : ∀ wx, Below w4.heap.size w4 wx → Calls Try.prog 18 #[.pointer (some ⟨pb, 0, none⟩)] wx fun e w' => e = .returned (.string Y) ∧ Below wx.heap.size wx w' := by
      intro wx hb
      have := show_calls tb pb wx (htb.keep (below_keeps hb)) (by omega)
      rwa [hY] at this
    have g1 : ∀ wx, Calls Try.prog 24 #[.string ((⟨#[40]⟩ : ByteArray) ++ P ++ ⟨#[41]⟩), .string X] wx fun e w' => e = .returned (.bool true) ∧ Below wx.heap.size wx w' := fun wx => shows_calls _ _ _ r1 dX.symm wx
    have g2 : ∀ wx, Calls Try.prog 24 #[.string (P ++ ⟨#[124, 40]⟩ ++ Q ++ ⟨#[41]⟩), .string ((⟨#[40]⟩ : ByteArray) ++ X ++ ⟨#[124]⟩ ++ Y ++ ⟨#[41]⟩)] wx fun e w' => e = .returned (.bool true) ∧ Below wx.heap.size wx w' :=
      fun wx => shows_calls _ _ _ r2 (by simp [showT, dX, dY]) wx
    have g3 : ∀ wx, Calls Try.prog 24 #[.string ((⟨#[40]⟩ : ByteArray) ++ P ++ ⟨#[41, 40]⟩ ++ Q ++ ⟨#[41]⟩), .string ((⟨#[40]⟩ : ByteArray) ++ X ++ Y ++ ⟨#[41]⟩)] wx fun e w' => e = .returned (.bool true) ∧ Below wx.heap.size wx w' :=
      fun wx => shows_calls _ _ _ r3 (by simp [showT, dX, dY]) wx
    have g4 : ∀ wx, Calls Try.prog 24 #[.string ((⟨#[40]⟩ : ByteArray) ++ P ++ ⟨#[41, 42]⟩), .string (X ++ ⟨#[42]⟩)] wx fun e w' => e = .returned (.bool true) ∧ Below wx.heap.size wx w' :=
      fun wx => shows_calls _ _ _ r4 (by simp [showT, dX]) wx
    have g5 : ∀ wx, Calls Try.prog 24 #[.string ((⟨#[40]⟩ : ByteArray) ++ P ++ ⟨#[41, 43, 63]⟩), .string (X ++ ⟨#[43, 63]⟩)] wx fun e w' => e = .returned (.bool true) ∧ Below wx.heap.size wx w' :=
      fun wx => shows_calls _ _ _ r5 (by simp [showT, dX]) wx
    have S1 := Lib.hid s1
    have S2 := Lib.hid s2
    have G1 := Lib.hid g1
    have G2 := Lib.hid g2
    have G3 := Lib.hid g3
    have G4 := Lib.hid g4
    have G5 := Lib.hid g5
    clear s1 s2 g1 g2 g3 g4 g5 r1 r2 r3 r4 r5 hX hY dX dY fa fb hta htb hpa hpb lP lQ la lb HD1 HD2 HN1 HN2
    go_wp2_with fail
    refine S1.out.mono ?_
    rintro e w5 ⟨rfl, hb5⟩
    go_wp2_with fail
    refine (S2.out w5 hb5).mono ?_
    rintro e w6 ⟨rfl, hb6⟩
    go_wp2_with fail
    refine (G1.out w6).mono ?_
    rintro e w7 ⟨rfl, hb7⟩
    go_wp2_with fail
    refine (G2.out w7).mono ?_
    rintro e w8 ⟨rfl, hb8⟩
    go_wp2_with fail
    refine (G3.out w8).mono ?_
    rintro e w9 ⟨rfl, hb9⟩
    go_wp2_with fail
    refine (G4.out w9).mono ?_
    rintro e w10 ⟨rfl, hb10⟩
    go_wp2_with fail
    refine (G5.out w10).mono ?_
    rintro e w11 ⟨rfl, hb11⟩
    go_wp2_with fail
    go_ret
    exact ⟨rfl, then_ (then_ (then_ (then_ (then_ (then_ (then_ hB hb5) hb6) hb7) hb8) hb9) hb10) hb11⟩
end Go.Proofs.Ytlmnincllndpnaa
