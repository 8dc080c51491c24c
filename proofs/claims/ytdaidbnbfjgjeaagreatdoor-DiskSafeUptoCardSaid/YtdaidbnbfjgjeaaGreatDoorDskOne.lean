/- Layer 3's law DiskSafe: one disk through the law's calls. -/
import Derived.Test.YtdaidbnbfjgjeaaGreatDoorDskKept
import Derived.Test.YtdaidbnbfjgjeaaGreatDoorDsa32
set_option linter.unusedVariables false
set_option linter.unusedSimpArgs false
namespace Go.Proofs.YtdaidbnbfjgjeaaGreatDoor
open Go.RowKit Go.Shelf Go.Maps Go.Sort

/-- The code's disk at the place p holds d. -/
structure One (M : Nat) (W w : World) (p : Nat) (d : Ds) : Prop where
  ex : ∃ R A, CD W.heap.size w R A d ∧ A.p = p
  wf : WF M d
  below : Below W.heap.size W w
section
variable {a : Nat → Addr} {M : Nat} {W w w' : World} {p : Nat} {d d' : Ds}
theorem One.later (h : One M W w p d) (hb : Below w.heap.size w w') : One M W w' p d := by
  obtain ⟨R, A, h1, h2⟩ := h.ex
  exact ⟨⟨R, A, h1.below hb, h2⟩, h.wf, h.below.trans (hb.mono h.below.size)⟩
theorem One.more {M' : Nat} (h : One M W w p d) (hM : M ≤ M') : One M' W w p d := ⟨h.ex, h.wf.more hM, h.below⟩
theorem one_new (n : Int) (hn : n ≤ 9223372036854775807) (hn' : -9223372036854775808 ≤ n) (w : World) (hb : Below W.heap.size W w) :
    Calls Tryz.prog 10 #[.int .i64 n] w fun x w1 => ∃ p, x = .returned (.pointer (some ⟨p, 0, none⟩)) ∧ One 0 W w1 p (newD n) :=
  (new_calls W.heap.size n w hb.size hn hn').mono fun x w1 ⟨R, A, e, h1, h2, h3⟩ => ⟨A.p, e, ⟨R, A, h1, rfl⟩, WF.new n, hb.trans (h2.mono hb.size)⟩
def OneOut (M : Nat) (W : World) (p : Nat) (d : Ds) (e : Ending) (w : World) : Prop := e = .returned .nilIface ∧ One M W w p d
theorem One.of {M' : Nat} {r : Nat × Ds} {op s : ByteArray} {R : Nat → Nat} {A : Adr} (h : One M W w A.p d) (hc : CD W.heap.size w R A d) (hr : r = (0, d')) (hw : WF M' r.2) {f : FuncId} {args : Array Value} (hC : Calls Tryz.prog f args w (NamesOutF W.heap.size a R A r op s w)) :
    Calls Tryz.prog f args w (OneOut M' W A.p d') := by
  subst hr
  refine hC.mono ?_
  rintro e w2 ⟨v, R', A', rfl, h1, h2, h3, h4, _⟩
  obtain rfl := nil_of h1 rfl
  exact ⟨rfl, ⟨R', A', h2, h4⟩, hw, h.below.trans (h3.below h.below.size hc.low)⟩
theorem One.mkdir (hF : Fails W.heap.size a W) (h : One M W w p d) (hM : M ≤ 536870912) (S : ByteArray) (hS : S.size ≤ 1073741824) (h0 : mkdirD d S.data.toList = (0, d')) :
    Calls Tryz.prog 11 #[.pointer (some ⟨p, 0, none⟩), .string S] w (OneOut (M + 1) W p d') := by
  obtain ⟨R, A, hc, rfl⟩ := h.ex
  exact One.of h hc h0 (h.wf.mkdir _) ((mkdir_calls S w hc (h.wf.fit hM) hS h.below.size (hF.below h.below)).mono fun _ _ k => k.weak)
theorem One.create (hF : Fails W.heap.size a W) (h : One M W w p d) (hM : M ≤ 536870912) (S : ByteArray) (hS : S.size ≤ 1073741824) (h0 : createD d S.data.toList = (0, d')) :
    Calls Tryz.prog 12 #[.pointer (some ⟨p, 0, none⟩), .string S] w (OneOut (M + 1) W p d') := by
  obtain ⟨R, A, hc, rfl⟩ := h.ex
  exact One.of h hc h0 (h.wf.create _) (create_calls S w hc (h.wf.fit hM) h.wf.nums hS h.below.size (hF.below h.below))
theorem One.append (hF : Fails W.heap.size a W) (h : One M W w p d) (hM : M ≤ 536870912) (S : ByteArray) (hS : S.size ≤ 1073741824) (Ao : Option Addr) (t : Txt) (hl : Strs w Ao 1 [t]) (ht : t.length ≤ 140737488355328) (h0 : appendD d S.data.toList t = (0, d')) :
    Calls Tryz.prog 13 #[.pointer (some ⟨p, 0, none⟩), .string S, .slice Ao 1 1] w (OneOut (M + t.length + 1) W p d') := by
  obtain ⟨R, A, hc, rfl⟩ := h.ex
  have e : [t].flatten = t := by simp
  have hk := append_calls (a := a) S Ao 1 1 [t] w hc (h.wf.fit hM) hS h.below.size (hF.below h.below) hl (by decide) (by decide) (by rw [e]; exact ht) (h.wf.used hM) h.wf.capl (h.wf.nl hM) (h.wf.sl hM)
  rw [e] at hk
  exact One.of h hc h0 (h.wf.append _ _) (hk.mono fun _ _ k => k.weak)
theorem One.sync (hF : Fails W.heap.size a W) (h : One M W w p d) (hM : M ≤ 536870912) (S : ByteArray) (hS : S.size ≤ 1073741824) (h0 : syncD d S.data.toList = (0, d')) :
    Calls Tryz.prog 14 #[.pointer (some ⟨p, 0, none⟩), .string S] w (OneOut (M + 1) W p d') := by
  obtain ⟨R, A, hc, rfl⟩ := h.ex
  exact One.of h hc h0 (h.wf.sync _) ((sync_calls S w hc (h.wf.fit hM) hS h.below.size (hF.below h.below)).mono fun _ _ k => k.weak)
theorem One.syncNames (hF : Fails W.heap.size a W) (h : One M W w p d) (hM : M ≤ 536870912) (h0 : syncNamesD d = (0, d')) :
    Calls Tryz.prog 15 #[.pointer (some ⟨p, 0, none⟩)] w (OneOut (M + 1) W p d') := by
  obtain ⟨R, A, hc, rfl⟩ := h.ex
  exact One.of h hc h0 h.wf.syncNames ((syncNames_calls w hc (h.wf.fit hM) h.below.size (hF.below h.below)).mono fun _ _ k => k.weak)
/-- The list that is handed over need not be a caller's: it lies outside the disk. -/
theorem One.restart (h : One M W w p d) (hM : M ≤ 536870912) (n : Int) (hn1 : -9223372036854775808 ≤ n) (hn2 : n ≤ 9223372036854775807) {w2 : World} (hb : Below w.heap.size w w2) (Ad : Option Addr) (nd cd : Nat) (data : List Int) (z : Bool)
    (hdat : Ints3 w2 Ad nd data) (hdr : ∀ x, Ad = some x → w.heap.size ≤ x.block) (hdb : ∀ x ∈ data, -9223372036854775808 ≤ x ∧ x ≤ 9223372036854775807) (hnd : nd ≤ 140737488355328) :
    Calls Tryz.prog 16 #[.pointer (some ⟨p, 0, none⟩), .int .i64 n, .slice Ad nd cd, .bool z] w2 fun e w' => e = .returned (.tuple #[]) ∧ One (M + 1) W w' p (restartD d n data z) := by
  have h2 := h.later hb
  obtain ⟨R, A, hc, rfl⟩ := h.ex
  refine (restart_calls n Ad nd cd data z w2 (hc.below hb) h.wf hM h2.below.size hn1 hn2 hdat (fun x hx _ => hc.inw.new (hdr x hx)) hdb hnd).mono ?_
  rintro e w3 ⟨R', A', rfl, k1, k2, k3⟩
  exact ⟨rfl, ⟨R', A', k1, k3⟩, h.wf.restart _ _ _, h2.below.trans (k2.below h2.below.size hc.low)⟩
theorem One.all (hF : Fails W.heap.size a W) (h : One M W w p d) (hM : M ≤ 536870912) (S : ByteArray) (hS : S.size ≤ 1073741824) {t : Txt} (h0 : allD d S.data.toList = (t, 0)) :
    Calls Tryz.prog 17 #[.pointer (some ⟨p, 0, none⟩), .string S] w fun e w' => e = .returned (.tuple #[txtV t, .nilIface]) ∧ Below w.heap.size w w' := by
  obtain ⟨R, A, hc, rfl⟩ := h.ex
  refine (all3_calls S w hc (h.wf.fit hM) hS h.below.size (hF.below h.below)).mono ?_
  rintro e w2 ⟨v, rfl, hv, hb⟩
  rw [h0] at hv ⊢
  obtain rfl := nil_of hv rfl
  exact ⟨rfl, hb⟩
theorem One.list (hF : Fails W.heap.size a W) (h : One M W w p d) (hM : M ≤ 536870912) (S : ByteArray) (hS : S.size ≤ 1073741824) (hS0 : S.data.toList ≠ []) {l : List En} (h0 : listD d S.data.toList = (l, 0)) :
    Calls Tryz.prog 18 #[.pointer (some ⟨p, 0, none⟩), .string S] w fun e w' => ∃ X c, e = .returned (.tuple #[.slice X l.length c, .nilIface]) ∧ Below w.heap.size w w' := by
  obtain ⟨R, A, hc, rfl⟩ := h.ex
  refine (list_dir S hS0 w hc (h.wf.fit hM) hS h.below.size (hF.below h.below) (h.wf.nl hM)).mono ?_
  rintro e w2 ⟨v, u, rfl, hv, hr, hb⟩
  rw [h0] at hv hr
  obtain rfl := nil_of hv rfl
  obtain ⟨X, c, rfl, _, _⟩ := EntRow.out hr
  exact ⟨X, c, rfl, hb⟩
theorem One.off (h : One M W w p d) (h0 : d.off = false) :
    Calls Tryz.prog 19 #[.pointer (some ⟨p, 0, none⟩)] w fun e w' => e = .returned (.bool false) ∧ w = w' := by
  obtain ⟨R, A, hc, rfl⟩ := h.ex
  rw [← h0]
  exact off_calls A.p d.off w (Blk.cell hc.blk 6)

/-! ### copies of texts -/
/-- An append whose run is known. -/
theorem wpList_append_known {P : Program} {w w' : World} {ops : Array Oper} {rest : List Oper} {o : Oper} {a : Act} {Q : Exit → Act → World → Prop} (hgd : o.guard = none) (s x : Operand) (t : TypeId)
    (ho : o.op = .call { callee := .builtin .append, args := #[s, x], argTypes := #[t, t] }) {v u v' : Value} (hs : a.eval s = v) (hx : a.eval x = u)
    (hrun : (Builtin.append_ #[t, t] o.type #[v, u]).run P w = .ok v' w') (h : wpList P ops Q rest (a.put o.dst v') w') : wpList P ops Q (o :: rest) a w := by
  refine wpList_plain hgd fun K hK => ?_
  unfold Oper.wp
  simp [execOp, ho, resolve, invoke, builtin, hs, hx, hrun, Result.andThen]
  exact hK _ _ h
theorem run_texts (v : Value) (k : Nat) (xs : List Value) (B : Nat) (Ad : Option Addr) (n c : Nat) (l : List Txt) (w : World) (hown : w.ownsRow B 9 1 v k xs) (hB : B ≤ w.heap.size) (h : Strs w Ad n l) (hA : Ad = none → c = 0) (hn : (k + n) * 16 ≤ 140737488351232) :
    ∃ v' w', (Builtin.append_ #[22, 22] 22 #[v, .slice Ad n c]).run Tryz.prog w = .ok v' w' ∧ w'.ownsRow B 9 1 v' (k + n) (xs ++ l.map txtV) ∧ w.grownBy w' v.ownBlock := by
  obtain ⟨i0, hi0, hz0, hz1, hz2⟩ := info_parts info_string3
  have hl := h.len
  cases Ad with
  | none =>
    have h0 : n = 0 := by
      rcases Nat.eq_zero_or_pos n with h0 | h0
      · exact h0
      · obtain ⟨b, off, e, _⟩ := h.2 h0; cases e
    subst h0
    obtain rfl := hA rfl
    obtain rfl : l = [] := List.eq_nil_of_length_eq_zero hl
    exact ⟨v, w, run_append_owned_none (P := Tryz.prog) (w := w) B 22 22 9 i0 1 Tryz.underlying22 hi0 v k xs hown, by simpa using hown, ⟨rfl, rfl, rfl, Nat.le_refl _, fun _ _ _ => rfl⟩⟩
  | some x =>
    obtain ⟨v', w', h1, h2, h3, _, _⟩ := run_append_own_at (P := Tryz.prog) (w := w) B 22 22 9 i0 (.string ⟨#[]⟩) 1 16 Tryz.underlying22 hi0 hz0 hz1 hz2 rfl (by decide) v k xs hown x n c (l.map txtV) (by rw [List.length_map, hl, Nat.mul_one]) h.cells (txtV_one l) (by unfold maxLen; omega) (by omega) hB
    exact ⟨v', w', h1, h2, h3⟩
/-- append(append([]string(nil), l...), m...). -/
theorem run_texts2 (A1 : Option Addr) (n1 c1 : Nat) (l1 : List Txt) (A2 : Option Addr) (n2 c2 : Nat) (l2 : List Txt) (w : World) (h1 : Strs w A1 n1 l1) (h2 : Strs w A2 n2 l2) (hA1 : A1 = none → c1 = 0) (hA2 : A2 = none → c2 = 0) (hn : (n1 + n2) * 16 ≤ 140737488351232) :
    ∃ v w1 X c w2, (Builtin.append_ #[22, 22] 22 #[.slice none 0 0, .slice A1 n1 c1]).run Tryz.prog w = .ok v w1 ∧ (Builtin.append_ #[22, 22] 22 #[v, .slice A2 n2 c2]).run Tryz.prog w1 = .ok (.slice X (n1 + n2) c) w2 ∧
      Strs w2 X (n1 + n2) (l1 ++ l2) ∧ Below w.heap.size w w2 := by
  obtain ⟨v, w1, r1, o1, g1⟩ := run_texts (.slice none 0 0) 0 [] w.heap.size A1 n1 c1 l1 w (World.ownsRow_nil _ _ _ _) (Nat.le_refl _) h1 hA1 (by omega)
  rw [Nat.zero_add, List.nil_append] at o1
  have hb1 : Below w.heap.size w w1 := ⟨g1.os, g1.tape, g1.output, g1.size, fun k hk => g1.block k hk (fun e => by cases e)⟩
  obtain ⟨v2, w2, r2, o2, g2⟩ := run_texts v n1 _ w.heap.size A2 n2 c2 l2 w1 o1 hb1.size (h2.below hb1) hA2 hn
  rw [← List.map_append] at o2
  obtain ⟨X, c, rfl, hs, _, _⟩ := Strs.of_own o2 (by rw [List.length_append, h1.len, h2.len])
  refine ⟨v, w1, X, c, w2, r1, r2, hs, g2.os.trans hb1.os, g2.tape.trans hb1.tape, g2.output.trans hb1.output, Nat.le_trans hb1.size g2.size, fun k hk => ?_⟩
  refine (g2.block k (Nat.lt_of_lt_of_le hk hb1.size) fun e => ?_).trans (hb1.block k hk)
  have := World.ownsRow.lt o1 k e.symm
  omega
end
end Go.Proofs.YtdaidbnbfjgjeaaGreatDoor
