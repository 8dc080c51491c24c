/- Merged: KRow, WalLawB, WalPlayP. -/
import Derived.Test.YtfpgbhimgfdddaaGreatDoorWak01
import Derived.Deep.Onto
import Derived.Test.YtfpgbhimgfdddaaGreatDoorWax04
set_option linter.unusedVariables false
set_option linter.unusedSimpArgs false
/-! ## KRow -/
/- A slice of one's own that is cut at its head and appended to. No program in sight. -/
namespace Go.Proofs.YtfpgbhimgfdddaaGreatDoor
open Go.RowKit

/-- The slice '.slice ao n cap' holds the cells xs; its array lies at block B or behind. -/
structure KRow (w : World) (B sz : Nat) (ao : Option Addr) (n cap : Nat) (xs : List Value) : Prop where
  cm : cap ≤ maxLen
  ex : ∃ b off, Came w sz ao b off n cap xs ∧ (0 < cap → B ≤ b)
section
variable {w w' : World} {B sz n cap : Nat} {ao : Option Addr} {xs : List Value}
theorem KRow.nil (w : World) (B sz : Nat) : KRow w B sz none 0 0 [] :=
  ⟨Nat.zero_le _, 0, 0, ⟨Nat.le_refl _, fun h => absurd h (by omega), fun h => absurd h (by omega), by simp, fun j u h => by simp at h, fun j h => by simp at h⟩, fun h => absurd h (by omega)⟩
theorem KRow.len (h : KRow w B sz ao n cap xs) : xs.length = n * sz := by
  obtain ⟨b, off, hc, _⟩ := h.ex
  exact hc.oldsLen
theorem KRow.le (h : KRow w B sz ao n cap xs) : n ≤ cap := by
  obtain ⟨b, off, hc, _⟩ := h.ex
  exact hc.le
theorem KRow.lt (h : KRow w B sz ao n cap xs) : ∀ x, ao = some x → 0 < cap → B ≤ x.block ∧ x.block < w.heap.size := by
  obtain ⟨b, off, hc, hB⟩ := h.ex
  intro x hx h0
  have := hc.addr h0
  rw [hx] at this
  injection this with this
  rw [this]
  exact ⟨hB h0, hc.lt h0⟩
theorem KRow.keep (h : KRow w B sz ao n cap xs) (hs : w.heap.size ≤ w'.heap.size) (hk : ∀ x, ao = some x → 0 < cap → w'.heap[x.block]? = w.heap[x.block]?) : KRow w' B sz ao n cap xs := by
  obtain ⟨b, off, hc, hB⟩ := h.ex
  refine ⟨h.cm, b, off, ⟨hc.le, hc.addr, fun h0 => Nat.lt_of_lt_of_le (hc.lt h0) hs, hc.oldsLen, fun j u hu => ?_, fun j hj => ?_⟩, hB⟩
  · have h0 : 0 < cap := by
      rcases Nat.eq_zero_or_pos cap with h0 | h0
      · have h1 := hc.oldsLen
        have h2 := hc.le
        have h3 : n = 0 := by omega
        rw [h3, Nat.zero_mul] at h1
        have := (List.getElem?_eq_some_iff.1 hu).1
        omega
      · exact h0
    exact (World.cell?_of_block (w := w) (a := ⟨b, off + j, none⟩) (hk ⟨b, off, none⟩ (hc.addr h0) h0)).trans (hc.olds j u hu)
  · have h0 : 0 < cap := by
      rcases Nat.eq_zero_or_pos cap with h0 | h0
      · subst h0; simp at hj
      · exact h0
    have hb := hk ⟨b, off, none⟩ (hc.addr h0) h0
    exact ⟨by rw [World.cell?_of_block (w := w) (a := ⟨b, off + n * sz + j, none⟩) hb]; exact (hc.spare j hj).1, by rw [World.frozen?_of_block (w := w) (a := ⟨b, off + n * sz + j, none⟩) hb]; exact (hc.spare j hj).2⟩
theorem KRow.at_ (h : KRow w B sz ao n cap xs) (h0 : 0 < n) : ∃ b off, ao = some ⟨b, off, none⟩ ∧ b < w.heap.size ∧ ∀ j u, xs[j]? = some u → w.cell? ⟨b, off + j, none⟩ = some u := by
  obtain ⟨b, off, hc, hB⟩ := h.ex
  have := hc.le
  exact ⟨b, off, hc.addr (by omega), hc.lt (by omega), hc.olds⟩
/-- The slice without its first element. -/
theorem KRow.tail (h : KRow w B sz ao (n + 1) cap xs) : KRow w B sz (if cap = 1 then ao else ao.map (·.add (1 * sz))) n (cap - 1) (xs.drop sz) := by
  obtain ⟨b, off, hc, hB⟩ := h.ex
  have hle := hc.le
  have hl := hc.oldsLen
  refine ⟨Nat.le_trans (Nat.sub_le _ _) h.cm, b, off + sz, ⟨by omega, fun h0 => ?_, fun h0 => hc.lt (by omega), ?_, fun j u hu => ?_, fun j hj => ?_⟩, fun h0 => hB (by omega)⟩
  · rw [if_neg (by omega), hc.addr (by omega), Nat.one_mul]
    simp only [Option.map_some, Addr.add]
    split <;> simp_all
  · rw [List.length_drop, hl, Nat.add_mul, Nat.one_mul]
    omega
  · rw [List.getElem?_drop] at hu
    have := hc.olds (sz + j) u hu
    rw [← this]
    congr 2
    omega
  · have e1 : cap - 1 - n = cap - (n + 1) := by omega
    rw [e1] at hj
    have := hc.spare j hj
    rw [Nat.add_mul, Nat.one_mul] at this
    rw [show off + sz + n * sz + j = off + (n * sz + sz) + j by omega]
    exact this
theorem KRow.of_own {e : TypeId} {v : Value} (h : w.ownsRow B e sz v n xs) : ∃ ao cap, v = .slice ao n cap ∧ KRow w B sz ao n cap xs ∧ v.ownBlock = ao.map (·.block) := by
  have hl := h.1
  rcases h.2 with ⟨rfl, rfl⟩ | ⟨g, cap, cur, rfl, hb, hg, hnc, hcm, hcs, htk⟩
  · obtain rfl : xs = [] := List.eq_nil_of_length_eq_zero (by simpa using hl)
    exact ⟨none, 0, rfl, KRow.nil w B sz, rfl⟩
  · refine ⟨_, cap, rfl, ⟨hcm, g, 0, ⟨hnc, fun _ => rfl, fun _ => ?_, hl, fun j u hu => ?_, fun j hj => ?_⟩, fun _ => hb⟩, rfl⟩
    · rcases Nat.lt_or_ge g w.heap.size with hlt | hge
      · exact hlt
      · rw [Array.getElem?_eq_none hge] at hg; cases hg
    · rw [cell_of_row w g (0 + j) cur e (0, 0) hg, Nat.zero_add]
      rw [← htk, List.getElem?_take] at hu
      split at hu
      · simpa using hu
      · cases hu
    · have hm : n * sz ≤ cap * sz := Nat.mul_le_mul_right _ hnc
      rw [Nat.sub_mul] at hj
      have hlt : 0 + n * sz + j < cur.size := by omega
      constructor
      · rw [cell_of_row w g (0 + n * sz + j) cur e (0, 0) hg, Array.getElem?_eq_getElem hlt]
        rfl
      · simp [World.frozen?, hg]
theorem setCells_tape (b : Nat) : ∀ (vs : List Value) (o : Nat) (w : World), (w.setCells b o vs).tape = w.tape ∧ (w.setCells b o vs).os = w.os ∧ (w.setCells b o vs).output = w.output ∧ (w.setCells b o vs).heap.size = w.heap.size ∧ ∀ k, k ≠ b → (w.setCells b o vs).heap[k]? = w.heap[k]?
  | [], _, _ => ⟨rfl, rfl, rfl, rfl, fun _ _ => rfl⟩
  | v :: r, o, w => by
    obtain ⟨h1, h2, h3, h4, h5⟩ := setCells_tape b r (o + 1) (w.setCell ⟨b, o, none⟩ v)
    rw [World.setCells]
    exact ⟨h1, h2, h3, h4.trans (by simp [World.setCell]), fun k hk => (h5 k hk).trans (Below.heap_setCell _ _ _ _ hk)⟩
/-- One element more. -/
theorem run_append_krow {P : Program} (t ty e : TypeId) (i : TypeInfo) (z : Value) (bytes : Nat) (ht : P.underlying t = some (.slice e)) (hi : P.info? e = some i) (hz : i.zero = some z) (hsize : i.size = sz) (hby : i.bytes = bytes) (hzs : z.cells.size = sz) (hsz : 0 < sz)
    (h : KRow w B sz ao n cap xs) (hB : B ≤ w.heap.size) (ad : Addr) (c : Nat) (news : List Value) (hl : news.length = 1 * sz) (hnews : ∀ j u, news[j]? = some u → w.cell? (ad.add j) = some u) (h1 : ∀ u ∈ news, u.oneCell' = true)
    (h63 : n + 1 ≤ maxLen) (hbytes : (n + 1) * bytes ≤ 140737488355328) :
    ∃ ao' cap' w', (Builtin.append_ #[t, t] ty #[.slice ao n cap, .slice (some ad) 1 c]).run P w = .ok (.slice ao' (n + 1) cap') w' ∧ KRow w' B sz ao' (n + 1) cap' (xs ++ news) ∧ w.grownBy w' (if cap = 0 then none else ao.map (·.block)) ∧
      (∀ x, ao' = some x → (0 < cap ∧ ao.map (·.block) = some x.block) ∨ w.heap.size ≤ x.block) := by
  obtain ⟨b, off, hc, hBb⟩ := h.ex
  have hle := hc.le
  have hol := hc.oldsLen
  subst hsize
  by_cases hr : n + 1 ≤ cap
  · have hcap : 0 < cap := by omega
    have hao := hc.addr hcap
    subst hao
    have hn1 : news.length = i.size := by rw [hl, Nat.one_mul]
    have hsp : i.size ≤ (cap - n) * i.size := by
      have : 1 * i.size ≤ (cap - n) * i.size := Nat.mul_le_mul_right _ (by omega)
      rwa [Nat.one_mul] at this
    have hsome : ∀ j, j < news.length → (w.cell? ⟨b, off + n * i.size + j, none⟩).isSome = true := fun j hj => (hc.spare j (by omega)).1
    have hrun := run_append_room_cells (P := P) w t ty e i ht hi b off n cap ad 1 c news hl hnews h1 hr hsome (fun j hj => (hc.spare j (by omega)).2)
    obtain ⟨k1, k2, k3, k4, k5⟩ := setCells_tape b news (off + n * i.size) w
    refine ⟨_, cap, _, hrun, ⟨h.cm, b, off, ⟨hr, fun _ => rfl, fun _ => by rw [k4]; exact hc.lt hcap, by rw [List.length_append, hol, hl, Nat.add_mul], fun j u hu => ?_, fun j hj => ?_⟩, fun _ => hBb hcap⟩,
      ⟨k2, k1, k3, Nat.le_of_eq k4.symm, fun k _ hk => k5 k (fun e => hk (by rw [e, if_neg (by omega)]; rfl))⟩, fun x hx => .inl ⟨hcap, by injection hx with hx; rw [← hx]; rfl⟩⟩
    · by_cases hj : j < xs.length
      · rw [List.getElem?_append_left hj] at hu
        rw [World.cell?_setCells_out b _ _ _ _ (fun _ _ => Or.inl (by show off + j < off + n * i.size; omega))]
        exact hc.olds j u hu
      · rw [List.getElem?_append_right (by omega)] at hu
        have ht' : j - xs.length < news.length := (List.getElem?_eq_some_iff.1 hu).1
        have := World.cell?_setCells_in b news (off + n * i.size) w hsome (j - xs.length) ht'
        rw [show off + n * i.size + (j - xs.length) = off + j by omega] at this
        rw [this, ← hu, List.getElem?_eq_getElem ht']
    · rw [Nat.sub_mul] at hj
      have hm : (n + 1) * i.size ≤ cap * i.size := Nat.mul_le_mul_right _ hr
      rw [Nat.add_mul, Nat.one_mul] at hj hm
      have e1 : off + (n + 1) * i.size + j = off + n * i.size + (i.size + j) := by rw [Nat.add_mul, Nat.one_mul]; omega
      have hs := hc.spare (i.size + j) (by rw [Nat.sub_mul]; omega)
      rw [e1]
      refine ⟨?_, by rw [World.frozen?_setCells]; exact hs.2⟩
      rw [World.cell?_setCells_out b _ _ _ _ (fun _ _ => Or.inr (by show off + n * i.size + news.length ≤ off + n * i.size + (i.size + j); omega))]
      exact hs.1
  · have hnc : n = cap := by omega
    have grow : ∀ v' w', (Builtin.append_ #[t, t] ty #[.slice ao n cap, .slice (some ad) 1 c]).run P w = .ok v' w' → w'.ownsRow w.heap.size e i.size v' (n + 1) (xs ++ news) → w.grownBy w' none →
        ∃ ao' cap' w', (Builtin.append_ #[t, t] ty #[.slice ao n cap, .slice (some ad) 1 c]).run P w = .ok (.slice ao' (n + 1) cap') w' ∧ KRow w' B i.size ao' (n + 1) cap' (xs ++ news) ∧ w.grownBy w' (if cap = 0 then none else ao.map (·.block)) ∧ (∀ x, ao' = some x → (0 < cap ∧ ao.map (·.block) = some x.block) ∨ w.heap.size ≤ x.block) := by
      intro v' w' hrun r1 r2
      obtain ⟨ao', cap', rfl, hk, _⟩ := KRow.of_own r1
      have hpos : 0 < cap' := by have := hk.le; omega
      refine ⟨ao', cap', w', hrun, ?_, ⟨r2.os, r2.tape, r2.output, r2.size, fun k hk' _ => r2.block k hk' (by simp)⟩, fun x hx => .inr (hk.lt x hx hpos).1⟩
      obtain ⟨b', off', hc', hB'⟩ := hk.ex
      exact ⟨hk.cm, b', off', hc', fun h0 => Nat.le_trans hB (hB' h0)⟩
    rcases Nat.eq_zero_or_pos cap with h0 | hcap
    · subst h0
      subst hnc
      obtain rfl : xs = [] := List.eq_nil_of_length_eq_zero (by simpa using hol)
      cases ao with
      | none =>
        obtain ⟨v', w', hrun, r1, r2, _, r3⟩ := run_append_own_at (P := P) w w.heap.size t ty e i z i.size bytes ht hi hz rfl hby hzs hsz (.slice none 0 0) 0 [] (World.ownsRow_nil w _ e i.size) ad 1 c news hl hnews h1 (by simpa using h63) (by simpa using hbytes) (Nat.le_refl _)
        exact grow v' w' hrun (by simpa using r1) r2
      | some a' =>
        obtain ⟨v', w', hrun, r1, r2⟩ := run_append_arg_grows (P := P) w t ty e i z i.size bytes ht hi hz rfl hby hzs hsz a' 0 0 [] (by simp) (by intro _ _ h'; simp at h') ad 1 c news hl hnews (by omega) (by simpa using h63) (by simpa using hbytes)
        exact grow v' w' hrun (by simpa using r1) r2
    · have hao := hc.addr hcap
      subst hao
      have holds : ∀ j u, xs[j]? = some u → w.cell? ((⟨b, off, none⟩ : Addr).add j) = some u := fun j u hu => by
        rw [Addr.add_lit]
        exact hc.olds j u hu
      obtain ⟨v', w', hrun, r1, r2⟩ := run_append_arg_grows (P := P) w t ty e i z i.size bytes ht hi hz rfl hby hzs hsz ⟨b, off, none⟩ n cap xs hol holds ad 1 c news hl hnews (by omega) h63 hbytes
      exact grow v' w' hrun r1 r2
end
end Go.Proofs.YtfpgbhimgfdddaaGreatDoor

/-! ## WalLawB -/
/- The walks of the laws of layer 16: texts, small. -/
namespace Go.Proofs.YtfpgbhimgfdddaaGreatDoor
open Go.RowKit Go.Shelf Go.Sort
attribute [local go_sem ↓] Go.wp_at_zero Go.wp_at_succ
attribute [local go_sem] Later.cell Later.frozen

/-- A payload with its segment. -/
def encEnt (e : Txt × Nat) : List Value := [txtV e.1, .int .i64 (e.2 : Int)]
theorem flatMap_at {α : Type} {enc : α → List Value} {sz : Nat} {v : Value} : ∀ (l : List α) (i j : Nat) {x : α}, (∀ x ∈ l, (enc x).length = sz) → l[i]? = some x → (enc x)[j]? = some v → (l.flatMap enc)[i * sz + j]? = some v
  | [], i, j, x, _, h, _ => by simp at h
  | y :: l, 0, j, x, hl, h, hv => by
    obtain rfl : y = x := by simpa using h
    have hj : j < (enc y).length := (List.getElem?_eq_some_iff.1 hv).1
    rw [List.flatMap_cons, List.getElem?_append_left (by omega)]
    simpa using hv
  | y :: l, i + 1, j, x, hl, h, hv => by
    rw [List.flatMap_cons, List.getElem?_append_right (by rw [hl y (by simp), Nat.succ_mul]; omega), hl y (by simp), show (i + 1) * sz + j - sz = i * sz + j by rw [Nat.succ_mul]; omega]
    exact flatMap_at l i j (fun z hz => hl z (by simp [hz])) (by simpa using h) hv
theorem KRow.elems {w : World} {B n cap : Nat} {ao : Option Addr} {l : List (Txt × Nat)} (h : KRow w B 2 ao n cap (l.flatMap encEnt)) (hn : l.length = n) : Elems w w.heap.size 2 encEnt ao n l :=
  ⟨hn, fun h0 => by
    obtain ⟨b, off, e, hb, hc⟩ := h.at_ h0
    exact ⟨b, off, e, hb, fun i x hx j v hv => by
      rw [Nat.add_assoc]
      exact hc _ _ (flatMap_at l i j (fun _ _ => rfl) hx hv)⟩⟩
theorem elems_ent {w : World} {A : Option Addr} {n : Nat} {l : List (Txt × Nat)} (h : Elems w w.heap.size 2 encEnt A n l) {i : Nat} {x : Txt × Nat} (hx : l[i]? = some x) : ∃ b off, A = some ⟨b, off, none⟩ ∧ b < w.heap.size ∧ w.cell? ⟨b, off + i * 2, none⟩ = some (txtV x.1) ∧ w.cell? ⟨b, off + i * 2 + 1, none⟩ = some (.int .i64 (x.2 : Int)) := by
  have hi : i < n := by rw [← h.1]; exact (List.getElem?_eq_some_iff.1 hx).1
  obtain ⟨b, off, e, hb, hc⟩ := h.2 (by omega)
  have h0 := hc i x hx 0 _ rfl
  have h1 := hc i x hx 1 _ rfl
  exact ⟨b, off, e, hb, by simpa using h0, h1⟩
set_option maxRecDepth 100000 in
set_option maxHeartbeats 4000000 in
theorem texts16_calls (A Bo : Option Addr) (n c c' : Nat) (l : List Txt) (kl : List (Txt × Nat)) (w : World) (hl : Strs w A n l) (hk : Elems w w.heap.size 2 encEnt Bo n kl) (he : l = kl.map (·.1)) (hn : n ≤ 1073741824) :
    Calls Tryz.prog 38 #[.slice A n c, .slice Bo n c'] w fun e w' => e = .returned (.bool true) ∧ Below w.heap.size w w' := by
  have HL := Lib.hid hl
  have HK := Lib.hid hk
  have HE := Lib.hid he
  have hkn : kl.length = n := hk.1
  have HKN := Lib.hid hkn
  clear hl hk he hkn
  go_enter Tryz.func38, Tryz.ntmps38
  go_wp2_with fail
  go_loopg [13] n (fun gh s13 wr => ∃ i : Nat, i + gh = n ∧ s13 = .int .i64 (i : Int) ∧ Below w.heap.size w wr)
  case atStart => exact ⟨0, by omega, rfl, Below.refl _ _⟩
  case round =>
    obtain ⟨i, hig, rfl, hB⟩ := hrel
    have HIG := Lib.hid hig
    have HB := Lib.hid hB
    clear hig
    by_cases hi : i < n
    · have el : decide ((i : Int) < (n : Int)) = true := by simp; omega
      have e0 : (i : Int) < (n : Int) := by omega
      have e1 : (0 : Int) ≤ (i : Int) := by omega
      obtain ⟨x, hx⟩ : ∃ x, kl[i]? = some x := ⟨_, List.getElem?_eq_getElem (by rw [HKN.out]; exact hi)⟩
      obtain ⟨b, off, rfl, hbl, x0⟩ := (HL.out.below hB).at_ (i := i) hi
      obtain ⟨b2, off2, rfl, hbl2, y0, y1⟩ := elems_ent ((HK.out.below hB).more hB.size) hx
      have hlx : l[i]! = x.1 := by
        have hil : i < l.length := by rw [HE.out, List.length_map, HKN.out]; exact hi
        rw [getElem!_pos l i hil]
        have h1 : l[i]? = some x.1 := by rw [HE.out, List.getElem?_map, hx]; rfl
        rw [List.getElem?_eq_getElem hil] at h1
        exact Option.some.inj h1
      rw [hlx] at x0
      obtain ⟨X, hX⟩ : ∃ X : ByteArray, (⟨(x.1).toArray⟩ : ByteArray) = X := ⟨_, rfl⟩
      have hXv : txtV x.1 = .string X := by rw [← hX]; rfl
      rw [hXv] at x0 y0
      clear hX hXv hlx hx
      go_upto_region 6 with fail
      refine wp_region_later (by kernel_rfl) (by kernel_rfl) ?_
      repeat (go_big_quiet_step (fail))
      refine wpQuiet_nil ?_
      rintro w2 ⟨⟨w2, hb2⟩, rfl⟩
      have HB2 := Lib.hid (HB.out.trans (hb2.mono HB.out.size))
      clear hb2 x0 y0 y1
      go_wp2_with fail
      go_roundg (gk - 1)
      case measure => have := HIG.out; omega
      case rel => exact ⟨i + 1, by have := HIG.out; omega, by go_num, HB2.out⟩
    · have el : decide ((i : Int) < (n : Int)) = false := by simp; omega
      go_wp2_with fail
      go_ret
      exact ⟨rfl, HB.out⟩

/-! ### scripts -/
structure OpW16 where
  kind : Int
  n : Int
  t : Txt
instance : Inhabited OpW16 := ⟨⟨0, 0, []⟩⟩
def encOpW (o : OpW16) : List Value := [.int .i64 o.kind, .int .i64 o.n, txtV o.t]
def opSum (l : List OpW16) : Nat := (l.map fun o => o.t.length + 9).sum
theorem opSum_step {l : List OpW16} {i : Nat} {o : OpW16} (h : l[i]? = some o) : opSum (l.take (i + 1)) = opSum (l.take i) + (o.t.length + 9) := by
  unfold opSum
  rw [List.take_add_one, h, List.map_append, List.sum_append]
  simp
theorem opSum_take (l : List OpW16) (i : Nat) : opSum (l.take i) ≤ opSum l := by
  conv => rhs; rw [← List.take_append_drop i l]
  unfold opSum
  rw [List.map_append, List.sum_append]
  omega
theorem elems_op {w : World} {A : Option Addr} {n : Nat} {l : List OpW16} (h : Elems w w.heap.size 3 encOpW A n l) {i : Nat} {x : OpW16} (hx : l[i]? = some x) : ∃ b off, A = some ⟨b, off, none⟩ ∧ b < w.heap.size ∧ w.cell? ⟨b, off + i * 3, none⟩ = some (.int .i64 x.kind) ∧ w.cell? ⟨b, off + i * 3 + 1, none⟩ = some (.int .i64 x.n) ∧ w.cell? ⟨b, off + i * 3 + 2, none⟩ = some (txtV x.t) := by
  have hi : i < n := by rw [← h.1]; exact (List.getElem?_eq_some_iff.1 hx).1
  obtain ⟨b, off, e, hb, hc⟩ := h.2 (by omega)
  have h0 := hc i x hx 0 _ rfl
  have h1 := hc i x hx 1 _ rfl
  have h2 := hc i x hx 2 _ rfl
  exact ⟨b, off, e, hb, by simpa using h0, h1, h2⟩
set_option maxRecDepth 100000 in
set_option maxHeartbeats 4000000 in
theorem small16_calls (A : Option Addr) (n c : Nat) (l : List OpW16) (w : World) (hl : Elems w w.heap.size 3 encOpW A n l) (hs : ∀ o ∈ l, o.t.length ≤ 140737488355328) (hn : n ≤ 140737488355328) :
    Calls Tryz.prog 40 #[.slice A n c] w fun e w' => e = .returned (.bool (decide (opSum l ≤ 1048576))) ∧ Below w.heap.size w w' := by
  have HL := Lib.hid hl
  have hkn : l.length = n := hl.1
  have HKN := Lib.hid hkn
  have HS := Lib.hid hs
  obtain ⟨r, hr⟩ : ∃ r, decide (opSum l ≤ 1048576) = r := ⟨_, rfl⟩
  have HR := Lib.hid hr
  rw [hr]
  clear hl hkn hs hr
  go_enter Tryz.func40, Tryz.ntmps40
  go_wp2_with fail
  go_loopg [3, 8] n (fun gh s3 s8 wr => ∃ i k : Nat, i + gh = n ∧ s8 = .int .i64 (i : Int) ∧ s3 = .int .i64 (k : Int) ∧ k = opSum (l.take i) ∧ k ≤ 1048576 ∧ Below w.heap.size w wr)
  case atStart => exact ⟨0, 0, by omega, rfl, rfl, rfl, by omega, Below.refl _ _⟩
  case round =>
    obtain ⟨i, k, hig, rfl, rfl, hk, hkl, hB⟩ := hrel
    have HIG := Lib.hid (⟨hig, hk⟩ : _ ∧ _)
    have HB := Lib.hid hB
    clear hig hk
    by_cases hi : i < n
    · have el : decide ((i : Int) < (n : Int)) = true := by simp; omega
      have e0 : (i : Int) < (n : Int) := by omega
      have e1 : (0 : Int) ≤ (i : Int) := by omega
      obtain ⟨x, hx⟩ : ∃ x, l[i]? = some x := ⟨_, List.getElem?_eq_getElem (by rw [HKN.out]; exact hi)⟩
      obtain ⟨b, off, rfl, hbl, x0, x1, x2⟩ := elems_op ((HL.out.below hB).more hB.size) hx
      have hxl := HS.out x (List.mem_of_getElem? hx)
      have hst := opSum_step hx
      rw [← HIG.out.2] at hst
      have hle := opSum_take l (i + 1)
      obtain ⟨X, hX⟩ : ∃ X : ByteArray, (⟨(x.t).toArray⟩ : ByteArray) = X := ⟨_, rfl⟩
      have hXv : txtV x.t = .string X := by rw [← hX]; rfl
      have hXs : x.t.length = X.size := by rw [← text_size3, ← hX]
      rw [hXv] at x2
      rw [hXs] at hst hxl
      obtain ⟨kd, hkd⟩ : ∃ z, x.kind = z := ⟨_, rfl⟩
      obtain ⟨nn, hnn⟩ : ∃ z, x.n = z := ⟨_, rfl⟩
      rw [hkd] at x0
      rw [hnn] at x1
      have HST := Lib.hid (⟨hst, hle⟩ : _ ∧ _)
      clear hX hXv hx hst hle hXs hkd hnn
      go_upto_region 5 with fail
      obtain ⟨U, hU⟩ : ∃ Q, wr.heap.size = Q := ⟨_, rfl⟩
      obtain ⟨w7, hw7⟩ : ∃ X', wr.alloc (.cells #[.int .i64 kd, .int .i64 nn, .string X] 179) = X' := ⟨_, rfl⟩
      have kx : Blk w7 U 179 #[.int .i64 kd, .int .i64 nn, .string X] := by rw [← hw7, ← hU]; exact Blk.new wr _ _
      have HB7 : Hid (Below w.heap.size w w7) := Lib.hid (by rw [← hw7]; exact HB.out.alloc HB.out.size _)
      rw [hw7, hU]
      have m2 : w7.cell? ⟨U, 2, none⟩ = some (.string X) := kx.cell 2
      clear hw7 hU kx x0 x1 x2
      by_cases hbig : 1048576 < k + (X.size + 9)
      · have hfin : r = false := by rw [← HR.out]; exact decide_eq_false (by have := HST.out; omega)
        subst hfin
        have d1 : decide ((1048576 : Int) < (k : Int) + ((X.size : Int) + 9)) = true := decide_eq_true (by omega)
        go_wp2_with fail
        go_ret
        exact ⟨rfl, HB7.out⟩
      · have d1 : decide ((1048576 : Int) < (k : Int) + ((X.size : Int) + 9)) = false := decide_eq_false (by omega)
        go_wp2_with fail
        go_roundg (gk - 1)
        case measure => have := HIG.out; omega
        case rel => exact ⟨i + 1, k + (X.size + 9), by have := HIG.out; omega, by go_num, by go_num, HST.out.1.symm, by omega, HB7.out⟩
    · have el : decide ((i : Int) < (n : Int)) = false := by simp; omega
      have hfin : r = true := by
        rw [← HR.out]
        refine decide_eq_true ?_
        have htk : l.take i = l := List.take_of_length_le (by rw [HKN.out]; omega)
        have := HIG.out.2
        rw [htk] at this
        omega
      subst hfin
      go_wp2_with fail
      go_ret
      exact ⟨rfl, HB.out⟩
end Go.Proofs.YtfpgbhimgfdddaaGreatDoor

/-! ## WalPlayP -/
/- What play of layer 16's laws keeps: plain, and the state of its loop. -/
namespace Go.Proofs.YtfpgbhimgfdddaaGreatDoor
open Go.RowKit Go.Shelf Go.Sort

theorem WM.kept_app (m : WM) (size : Int) (p : Txt) : (m.app size p).kept = m.kept ++ [(p, (m.app size p).n)] := by
  unfold WM.app
  split
  · rw [WM.kept_put, WM.kept_begin]
    rfl
  · rw [WM.kept_put]
    rfl
theorem WM.kept_rot (m : WM) : m.rot.kept = m.kept := by
  unfold WM.rot
  split
  · rfl
  · exact WM.kept_begin m
theorem WM.app_n (m : WM) (size : Int) (p : Txt) : (m.app size p).n ≤ m.n + 1 ∧ (m.app size p).segs.length ≤ m.segs.length + 1 := by
  unfold WM.app
  split
  · refine ⟨Nat.le_refl _, ?_⟩
    show (m.begin_.init ++ [_]).length ≤ _
    show ((m.init ++ [(m.n, m.ps)]) ++ [_]).length ≤ (m.init ++ [(m.n, m.ps)]).length + 1
    simp
  · refine ⟨Nat.le_succ _, ?_⟩
    show (m.init ++ [_]).length ≤ (m.init ++ [_]).length + 1
    simp
theorem WM.rot_n (m : WM) : m.rot.n ≤ m.n + 1 ∧ m.rot.segs.length ≤ m.segs.length + 1 := by
  unfold WM.rot
  split
  · exact ⟨Nat.le_succ _, Nat.le_succ _⟩
  · refine ⟨Nat.le_refl _, ?_⟩
    show ((m.init ++ [(m.n, m.ps)]) ++ [_]).length ≤ (m.init ++ [(m.n, m.ps)]).length + 1
    simp
theorem WM.drop_n (m : WM) (before : Int) : (m.drop before).n = m.n ∧ (m.drop before).segs.length ≤ m.segs.length := by
  refine ⟨rfl, ?_⟩
  show ((m.init.filter _) ++ [_]).length ≤ (m.init ++ [_]).length
  rw [List.length_append, List.length_append]
  have := List.length_filter_le (fun s : Nat × List Txt => !decide ((s.1 : Int) < before)) m.init
  simp only [List.length_cons, List.length_nil]
  omega
theorem WM.Ok.sorted {m : WM} (h : m.Ok) : m.kept.Pairwise fun a b => a.2 ≤ b.2 := by
  unfold WM.kept
  rw [List.pairwise_flatMap]
  refine ⟨fun s _ => ?_, ?_⟩
  · rw [List.pairwise_map]
    exact List.pairwise_of_forall fun _ _ => Nat.le_refl _
  · have hp : m.segs.Pairwise fun a b => a.1 < b.1 := by
      unfold WM.segs
      rw [List.pairwise_append]
      refine ⟨h.asc, by simp, fun x hx y hy => ?_⟩
      obtain rfl := List.mem_singleton.1 hy
      exact (h.lt x hx).2
    refine hp.imp fun hab x hx y hy => ?_
    obtain ⟨p, _, rfl⟩ := List.mem_map.1 hx
    obtain ⟨q, _, rfl⟩ := List.mem_map.1 hy
    exact Nat.le_of_lt hab
/-- Is an entry dropped? -/
def goK (before : Int) (mn : Nat) (e : Txt × Nat) : Bool := decide ((e.2 : Int) < before) && decide (e.2 < mn)
theorem drop_while (before : Int) (mn : Nat) : ∀ l : List (Txt × Nat), (l.Pairwise fun a b => a.2 ≤ b.2) → l.filter (fun e => !goK before mn e) = l.dropWhile (goK before mn)
  | [], _ => rfl
  | x :: l, h => by
    obtain ⟨h1, h2⟩ := List.pairwise_cons.1 h
    by_cases hx : goK before mn x = true
    · rw [List.filter_cons_of_neg (by simp [hx]), List.dropWhile_cons_of_pos hx, drop_while before mn l h2]
    · rw [List.filter_cons_of_pos (by simpa using hx), List.dropWhile_cons_of_neg hx]
      congr 1
      rw [List.filter_eq_self]
      intro e he
      have := h1 e he
      unfold goK at hx ⊢
      simp only [Bool.and_eq_true, decide_eq_true_eq, not_and, Bool.not_eq_true', Bool.and_eq_false_iff, decide_eq_false_iff_not] at hx ⊢
      omega
theorem WM.Ok.kept_drop {m : WM} (h : m.Ok) (before : Int) : (m.drop before).kept = m.kept.dropWhile (goK before m.n) := by
  rw [WM.kept_drop m before fun s hs => (h.lt s hs).2]
  exact drop_while before m.n m.kept h.sorted
section
variable {B0 : Nat} {a : Nat → Addr}
theorem Elems.keepAtW {α : Type} {w w' : World} {B sz n : Nat} {enc : α → List Value} {A : Option Addr} {xs : List α} (h : Elems w B sz enc A n xs) (hk : ∀ p : Addr, p.block < B → A.map (·.block) = some p.block → w'.cell? p = w.cell? p) : Elems w' B sz enc A n xs :=
  ⟨h.1, fun hn => by
    obtain ⟨b, off, e, hb, hc⟩ := h.2 hn
    exact ⟨b, off, e, hb, fun i x hx j v hv => (hk _ hb (by rw [e]; rfl)).trans (hc i x hx j v hv)⟩⟩
/-- The state of play's loop. -/
structure PlayI (B0 : Nat) (a : Nat → Addr) (p : Nat) (size : Int) (l : List OpW16) (R0 : Nat → Nat) (w0 : World) (i : Nat) (m : WM) (k : List (Txt × Nat)) (d : Ds) (M : Nat) (Rr : Nat → Nat) (ao : Option Addr) (cap g : Nat) (wr : World) : Prop where
  wl : WL B0 a 67108864 M p g Rr wW size m d wr
  kk : k = m.kept
  kr : KRow wr w0.heap.size 2 ao k.length cap (k.flatMap encEnt)
  kz : ∀ x, ao = some x → 0 < cap → Rr x.block = 0 ∧ x.block ≠ g
  mn : m.n ≤ i + 1
  us : usedD d ≤ opSum (l.take i)
  mm : M + m.segs.length ≤ 10 + 2 * opSum (l.take i)
  out : Out R0 Rr w0 wr
  gb : w0.heap.size ≤ g
theorem PlayI.below {p : Nat} {size : Int} {l : List OpW16} {R0 : Nat → Nat} {w0 : World} {i : Nat} {m : WM} {k : List (Txt × Nat)} {d : Ds} {M : Nat} {Rr : Nat → Nat} {ao : Option Addr} {cap g : Nat} {wr w' : World}
    (h : PlayI B0 a p size l R0 w0 i m k d M Rr ao cap g wr) (hC : SCon B0 a) (hb : Below wr.heap.size wr w') : PlayI B0 a p size l R0 w0 i m k d M Rr ao cap g w' :=
  ⟨h.wl.below hC hb, h.kk, h.kr.keep hb.size fun x hx h0 => hb.block _ (h.kr.lt x hx h0).2, h.kz, h.mn, h.us, h.mm, h.out.trans (Out.of_below hb), h.gb⟩
theorem PlayI.keep {p : Nat} {size : Int} {l : List OpW16} {R0 : Nat → Nat} {w0 : World} {i : Nat} {m : WM} {k : List (Txt × Nat)} {d : Ds} {M : Nat} {Rr R2 : Nat → Nat} {ao : Option Addr} {cap g : Nat} {wr w' : World}
    (h : PlayI B0 a p size l R0 w0 i m k d M Rr ao cap g wr) (ho : OutG g Rr R2 wr w') : KRow w' w0.heap.size 2 ao k.length cap (k.flatMap encEnt) ∧ (∀ x, ao = some x → 0 < cap → R2 x.block = 0 ∧ x.block ≠ g) ∧ Out R0 R2 w0 w' :=
  ⟨h.kr.keep ho.size fun x hx h0 => ho.block _ (h.kr.lt x hx h0).2 (h.kz x hx h0).1 (h.kz x hx h0).2, fun x hx h0 => ⟨ho.old _ (h.kr.lt x hx h0).2 (h.kz x hx h0).1, (h.kz x hx h0).2⟩, ho.out h.out h.gb⟩
theorem PlayI.next {p : Nat} {size : Int} {l : List OpW16} {R0 : Nat → Nat} {w0 : World} {i : Nat} {m : WM} {k : List (Txt × Nat)} {d : Ds} {M : Nat} {Rr : Nat → Nat} {ao : Option Addr} {cap g : Nat} {wr : World}
    (h : PlayI B0 a p size l R0 w0 i m k d M Rr ao cap g wr) {o : OpW16} (ho : l[i]? = some o) : PlayI B0 a p size l R0 w0 (i + 1) m k d M Rr ao cap g wr := by
  have := opSum_step ho
  have h1 := h.us
  have h2 := h.mm
  have h3 := h.mn
  exact ⟨h.wl, h.kk, h.kr, h.kz, by omega, by omega, by omega, h.out, h.gb⟩
/-- A row of one's own behind an append: the log and the disk are as they were. -/
theorem WL.grown {K M p g cap : Nat} {R : Nat → Nat} {D : ByteArray} {size : Int} {m : WM} {d : Ds} {w w' : World} {ao : Option Addr} {B : Nat} (h : WL B0 a K M p g R D size m d w) (hC : SCon B0 a) (hg : w.grownBy w' (if cap = 0 then none else ao.map (·.block)))
    (hz : ∀ x, ao = some x → 0 < cap → R x.block = 0 ∧ x.block ≠ g ∧ B ≤ x.block) (hB : B0 ≤ B) : WL B0 a K M p g R D size m d w' := by
  have hrow : ∀ b, (if cap = 0 then none else ao.map (·.block)) = some b → R b = 0 ∧ b ≠ g ∧ B ≤ b := fun b hb => by
    split at hb
    · cases hb
    · rename_i h0
      cases ao with
      | none => cases hb
      | some x =>
        injection hb with hb
        rw [← hb]
        exact hz x rfl (by omega)
  have hb : Below B0 w w' := ⟨hg.os, hg.tape, hg.output, hg.size, fun k hk => hg.block k (Nat.lt_of_lt_of_le hk h.wat.en.hb) (fun e => by have := (hrow k e.symm).2.2; omega)⟩
  exact ⟨⟨h.wat.dk.grow hg (fun b e => (hrow b e).1), Blk.grown h.wat.lg hg (fun e => (hrow g e.symm).2.1 rfl), h.wat.r0, h.wat.gb, h.wat.en.below hC hb, h.wat.f6.below hb⟩, h.ok, h.rr, h.cap, h.us, h.kb⟩
theorem Out.grown {cap : Nat} {R R' : Nat → Nat} {w w1 w2 : World} {ao : Option Addr} (h : Out R R' w w1) (hg : w1.grownBy w2 (if cap = 0 then none else ao.map (·.block))) (hz : ∀ x, ao = some x → 0 < cap → w.heap.size ≤ x.block) : Out R R' w w2 :=
  ⟨hg.os.trans h.os, hg.tape.trans h.tape, hg.output.trans h.output, Nat.le_trans h.size hg.size, fun k hk hr => (hg.block k (Nat.lt_of_lt_of_le hk h.size) (fun e => by
    split at e
    · cases e
    · cases ao with
      | none => cases e
      | some x =>
        have e2 : k = x.block := Option.some.inj e
        have := hz x rfl (by omega)
        omega)).trans (h.block k hk hr), h.old⟩
theorem opSum_len (l : List OpW16) : 9 * l.length ≤ opSum l := by
  unfold opSum
  induction l with
  | nil => simp
  | cons x l ih =>
    simp only [List.map_cons, List.sum_cons, List.length_cons]
    omega
end
end Go.Proofs.YtfpgbhimgfdddaaGreatDoor
