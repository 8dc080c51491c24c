/- The walks of wakes and of RetainDecides. -/
import Derived.Test.YtfokjcoiehgbpaaRetConv
namespace Go.Proofs.Ytfokjcoiehgbpaa
open Go.RowKit
attribute [local go_sem ↓] Go.wp_at_zero Go.wp_at_succ
attribute [local go_sem] Later.cell Later.frozen

def wakeXs : List Info := [⟨1, 0, 0, 80, 6⟩, ⟨2, 0, 0, 90, 6⟩, ⟨3, 1, 0, 90, 2⟩]
theorem wake_decides : decideOf [25, 0, 0] 10 100 10 [0, 0, 0] wakeXs = ([80, 0, 0], [1]) := by decide +kernel

theorem info_i64 : (Try.prog.info? 2).map (fun i => (i.zero, i.size, i.bytes)) = some (some (.int .i64 0), 1, 8) := by kernel_rfl
set_option maxRecDepth 100000 in
theorem arr3_eq (a b c d e f : Int) (w : World) : (Op.equalIn 10000 22 (.agg #[.int .i64 a, .int .i64 b, .int .i64 c]) (.agg #[.int .i64 d, .int .i64 e, .int .i64 f])).run Try.prog w = .ok (a == d && (b == e && c == f)) w := by
  obtain ⟨i0, hi0, hz0, hz1, hz2⟩ := info_parts info_i64
  rw [show (10000 : Nat) = 9998 + 1 + 1 from rfl, Op.equalIn]
  simp only [run_underlying Try.underlying22, Sem.run_bind, Result.andThen_ok, sizeOf, typeInfo]
  simp [Std.Legacy.Range.forIn_eq_forIn_range', List.range', hz1, go_sem, hi0]
  by_cases h1 : a = d <;> by_cases h2 : b = e <;> by_cases h3 : c = f <;> simp [h1, h2, h3]

theorem decide_calls_eq (r : List Int × List Int) (p : Pol) (now : Int) (M : Man) (A : Option Addr) (n c : Nat) (xs : List Info) (w : World) (hr : decideOf p.keeps p.size now M.w0 M.low xs = r) (hn : n * 40 ≤ 140737488355328)
    (hk0 : -9223372036854775808 ≤ p.k0) (hk1 : -9223372036854775808 ≤ p.k1) (hk2 : -9223372036854775808 ≤ p.k2) (hnow : -9223372036854775808 ≤ now)
    (hX : Elems w w.heap.size 5 Info.enc A n xs) :
    Calls Try.prog 6 #[p.val, .int .i64 now, M.val (.slice A n c)] w (DecPost w r) := hr ▸ decide_calls p now M A n c xs w hn hk0 hk1 hk2 hnow hX
theorem refDecide_calls_eq (r : List Int × List Int) (p : Pol) (now : Int) (M : Man) (A : Option Addr) (n c : Nat) (xs : List Info) (w : World) (hr : decideOf p.keeps p.size now M.w0 M.low xs = r) (hn : n * 40 ≤ 140737488355328)
    (hk0 : -9223372036854775808 ≤ p.k0) (hk1 : -9223372036854775808 ≤ p.k1) (hk2 : -9223372036854775808 ≤ p.k2) (hnow : -9223372036854775808 ≤ now)
    (hX : Elems w w.heap.size 5 Info.enc A n xs) :
    Calls Try.prog 7 #[p.val, .int .i64 now, M.val (.slice A n c)] w (DecPost w r) := hr ▸ refDecide_calls p now M A n c xs w hn hk0 hk1 hk2 hnow hX

set_option maxHeartbeats 2000000 in
set_option maxRecDepth 100000 in
theorem wakes_calls (w : World) : Calls Try.prog 9 #[] w fun e w' => e = .returned (.bool true) ∧ Below w.heap.size w w' := by
  have heq := arr3_eq
  go_enter Try.func9, Try.ntmps9
  go_wp2_with fail
  refine (decide_calls_eq ([80, 0, 0], [1]) ⟨25, 0, 0, 10⟩ 100 ⟨10, 10, 10, 0, 0, 0, 0, 0, 0, 0, 0, 0⟩ (some ⟨w.heap.size, 0, none⟩) 3 3 wakeXs _ wake_decides (by decide) (by decide) (by decide) (by decide) (by decide) ?_).mono ?_
  · refine ⟨rfl, fun _ => ⟨w.heap.size, 0, rfl, by simp; omega, fun i x hx j v hv => ?_⟩⟩
    have hblk : ∀ o, Blk ((w.alloc (.cells (wakeXs.flatMap Info.enc).toArray 39)).alloc o) w.heap.size 39 (wakeXs.flatMap Info.enc).toArray := fun o => (Blk.newAt rfl).alloc o
    refine ((hblk _).cell _).trans ?_
    have hi : i = 0 ∨ i = 1 ∨ i = 2 := by
      have := (List.getElem?_eq_some_iff.1 hx).1
      simp [wakeXs] at this
      omega
    have hj : j = 0 ∨ j = 1 ∨ j = 2 ∨ j = 3 ∨ j = 4 := by
      have := (List.getElem?_eq_some_iff.1 hv).1
      simp [Info.enc] at this
      omega
    rcases hi with rfl | rfl | rfl <;> (simp [wakeXs] at hx; subst hx) <;> rcases hj with rfl | rfl | rfl | rfl | rfl <;> (simp [Info.enc] at hv; subst hv; rfl)
  · rintro e w1 ⟨A, c, he, hE, hb, _⟩
    obtain ⟨b, off, rfl, hlt, hc⟩ := hE.2 (by decide)
    have c0 : w1.cell? ⟨b, off, none⟩ = some (.int .i64 1) := by simpa using hc 0 1 rfl 0 _ rfl
    subst he
    have bW : Below w.heap.size w w1 := then_ (by go_grown) hb
    simp only [List.getD_cons_zero, List.getD_cons_succ, List.length_cons, List.length_nil]
    have hb1 : b < w1.heap.size := hlt
    go_wp2
    go_ret
    exact ⟨rfl, bW.alloc bW.size _⟩
theorem flatMap_get {α : Type} {enc : α → List Value} {sz : Nat} (l : List α) (hl : ∀ x ∈ l, (enc x).length = sz) {j : Nat} {u : Value} (h : (l.flatMap enc)[j]? = some u) :
    ∃ i x r, l[i]? = some x ∧ (enc x)[r]? = some u ∧ j = i * sz + r := by
  induction l generalizing j with
  | nil => simp at h
  | cons y l ih =>
    rw [List.flatMap_cons] at h
    by_cases hj : j < (enc y).length
    · rw [List.getElem?_append_left hj] at h
      exact ⟨0, y, j, rfl, h, by simp⟩
    · rw [List.getElem?_append_right (by omega)] at h
      obtain ⟨i, x, r, h1, h2, h3⟩ := ih (fun z hz => hl z (by simp [hz])) h
      have hy := hl y (by simp)
      exact ⟨i + 1, x, r, by simpa using h1, h2, by rw [Nat.succ_mul]; omega⟩

theorem Elems.cells {α : Type} {enc : α → List Value} {sz n B : Nat} {w : World} {ad : Addr} {xs : List α} (hl : ∀ x ∈ xs, (enc x).length = sz) (h : Elems w B sz enc (some ad) n xs) :
    ∀ j u, (xs.flatMap enc)[j]? = some u → w.cell? (ad.add j) = some u := by
  intro j u hu
  obtain ⟨i, x, r, h1, h2, rfl⟩ := flatMap_get xs hl hu
  have hi : 0 < n := by
    have := (List.getElem?_eq_some_iff.1 h1).1
    have := h.1
    omega
  obtain ⟨b, off, e, _, hc⟩ := h.2 hi
  injection e with e
  subst e
  have := hc i x h1 r u h2
  have ea : (⟨b, off, none⟩ : Addr).add (i * sz + r) = ⟨b, off + i * sz + r, none⟩ := by
    unfold Addr.add
    split
    · rename_i h0; simp at h0 ⊢; (try omega)
    · simp; (try omega)
  rw [ea]; exact this

theorem encs_one (xs : List Info) : ∀ u ∈ xs.flatMap Info.enc, u.oneCell' = true := by
  intro u hu
  obtain ⟨x, _, hx⟩ := List.mem_flatMap.1 hu
  exact enc_one x u hx
theorem encs_len (xs : List Info) : (xs.flatMap Info.enc).length = xs.length * 5 := by
  induction xs with
  | nil => rfl
  | cons x xs ih => simp [List.flatMap_cons, ih, Info.enc, Nat.add_mul]

end Go.Proofs.Ytfokjcoiehgbpaa
