/- The walks of the document's reader (almanacref06): a node more. -/
import Derived.Test.YtlmnincllndpnaaRexParse
import Derived.Deep.AppendLies
import Derived.Deep.RegionLaw
import Derived.Lib.Hide
namespace Go.Proofs.Ytlmnincllndpnaa
open Go.RowKit
attribute [local go_sem ↓] Go.wp_at_zero Go.wp_at_succ

/-- Cells laid one by one from place k on. -/
theorem fill_foldl : ∀ (l : List Value) (k : Nat) (base : Array Value), k + l.length = base.size →
    ((l.zipIdx k).foldl (fun (cs : Array Value) (x : Value × Nat) => cs.setIfInBounds x.2 x.1) base).toList = base.toList.take k ++ l := by
  intro l
  induction l with
  | nil => intro k base h; simp at h; subst h; simp [List.take_of_length_le]
  | cons c l ih =>
    intro k base h
    simp only [List.length_cons] at h
    rw [List.zipIdx_cons, List.foldl_cons, ih (k + 1) _ (by simp; omega)]
    simp only [Array.toList_setIfInBounds]
    rw [List.take_succ_eq_append_getElem (by simp; omega)]
    simp [List.take_set_of_le]
/-- A slice literal of one row. -/
theorem run_bs {P : Program} (W : World) (t e : TypeId) (i : TypeInfo) (z : Value) (ht : P.underlying t = some (.slice e)) (hi : P.info? e = some i) (hz : i.zero = some z) (cs : Array Value) (hs : i.size = cs.size) (h0 : 0 < cs.size) (h24 : cs.size ≤ 2 ^ 24) :
    (Instr.buildSlice t 1 #[(0, .agg cs)]).run P W = .ok (.slice (some ⟨W.heap.size, 0, none⟩) 1 1) (W.alloc (.cells cs e)) := by
  have h1 : ¬ cs.size = 0 := by omega
  have h2 : ¬ (2 ^ 24 < cs.size) := by omega
  have hf0 : ∀ base : Array Value, base.size = cs.size → Instr.fill (fun i => some (i * cs.size, cs.size)) base [(0, Value.agg cs)] = some cs := by
    intro base hb
    simp only [Instr.fill, Value.cells, Nat.zero_mul, Nat.zero_add]
    rw [if_neg (by simp [hb])]
    congr 1
    apply Array.ext'
    have := fill_foldl cs.toList 0 base (by simp [hb])
    rw [← Array.foldl_toList, Array.toList_zipIdx]
    simpa using this
  have hf := hf0 ((Array.range (1 * cs.size)).map (z.cells[· % z.cells.size]!)) (by simp)
  rw [← hs] at hf h1 h2
  simp [Instr.buildSlice, run_underlying ht, sizeOf, typeInfo, zeroValue, hi, hz, h1, h2] 
  simp at hf
  simp [hf, newRow]

theorem node_info : ∃ ti : TypeInfo, Try.prog.info? 68 = some ti ∧ (∃ z, ti.zero = some z ∧ z.cells.size = 259) ∧ ti.size = 259 ∧ ti.bytes ≤ 4000 := by
  have h : (Try.prog.info? 68).elim false (fun ti => (ti.zero.elim false fun z => z.cells.size == 259) && ti.size == 259 && decide (ti.bytes ≤ 4000)) = true := by kernel_rfl
  cases hi : Try.prog.info? 68 with
  | none => rw [hi] at h; cases h
  | some ti =>
    rw [hi] at h
    cases hz : ti.zero with
    | none => simp [hz] at h
    | some z =>
      simp [hz] at h
      exact ⟨ti, rfl, ⟨z, hz, h.1.1⟩, h.1.2, h.2⟩
theorem bs_node (cs : Array Value) (h : cs.size = 259) (W : World) :
    (Instr.buildSlice 39 1 #[(0, .agg cs)]).run Try.prog W = .ok (.slice (some ⟨W.heap.size, 0, none⟩) 1 1) (W.alloc (.cells cs 68)) := by
  obtain ⟨ti, hti, ⟨z, hz, _⟩, hts, _⟩ := node_info
  exact run_bs W _ _ ti z Try.underlying39 hti hz cs (by omega) (by omega) (by omega)
/-- A whole block, read as a row. -/
theorem lc_row {w : World} {g : Nat} {t : TypeId} {cs : Array Value} (h : Blk w g t cs) {k : Nat} (hk : cs.size = k) : (loadCells ⟨g, 0, none⟩ k).run Try.prog w = .ok cs w := by
  subst hk
  have := run_loadCells_list (P := Try.prog) w ⟨g, 0, none⟩ cs.toList (fun j v hv => by
    rw [Addr.add_lit, Nat.zero_add, h.cell]; simpa using hv)
  simpa using this
attribute [-go_sem] Instr.buildSlice loadCells
attribute [local go_sem] bs_node Later.cell Later.frozen

/-- The cells of the document's tree. -/
def refCells (v : Value) (s : ByteArray) (i d f : Int) : Array Value := #[v, .string s, .int .i64 i, .int .i64 d, .int .i64 f]
/-- The document's tree at block t: n nodes, the cells xs. -/
structure RefAt (w : World) (base t : Nat) (s : ByteArray) (i d f : Int) (n : Nat) (xs : List Value) : Prop where
  row : ∃ v, Blk w t 41 (refCells v s i d f) ∧ w.ownsRow base 68 259 v n xs ∧ v.ownBlock ≠ some t

theorem rput_calls (w : World) (base t : Nat) (s : ByteArray) (i d f : Int) (n : Nat) (xs : List Value) (cs : Array Value) (hcs : cs.size = 259) (h1 : ∀ u ∈ cs.toList, u.oneCell' = true)
    (v : Value) (ht : Blk w t 41 (refCells v s i d f)) (hown : w.ownsRow base 68 259 v n xs) (hne : v.ownBlock ≠ some t) (hn : n < 1000) (hbase : base ≤ w.heap.size) :
    Calls Try.prog 31 #[.pointer (some ⟨t, 0, none⟩), .agg cs] w fun e w' =>
      e = .returned (.int .i64 n) ∧ ∃ g cap, Blk w' t 41 (refCells (.slice (some ⟨g, 0, none⟩) (n + 1) cap) s i d f) ∧ w'.ownsRow base 68 259 (.slice (some ⟨g, 0, none⟩) (n + 1) cap) (n + 1) (xs ++ cs.toList) ∧
        (v.ownBlock = some g ∨ w.heap.size ≤ g) ∧ g ≠ t ∧ Kept w.heap.size (t :: v.ownBlock.toList) w w' := by
  go_enter Try.func31, Try.ntmps31
  go_upto_region 1 with fail
  obtain ⟨w1, hw1⟩ : ∃ w1, w.alloc (Obj.cells cs 68) = w1 := ⟨_, rfl⟩
  have hbx : Blk w1 w.heap.size 68 cs := by rw [← hw1]; exact Blk.new _ _ _
  have ht1 : Blk w1 t 41 (refCells v s i d f) := by rw [← hw1]; exact ht.alloc _
  have ho1 : w1.ownsRow base 68 259 v n xs := by rw [← hw1]; exact hown.alloc _
  have hs1 : w1.heap.size = w.heap.size + 1 := by rw [← hw1]; simp
  have hk1 : Kept w.heap.size [] w w1 := by rw [← hw1]; exact (Kept.refl _ _ _).alloc (Nat.le_refl _) _
  try rw [hw1]
  obtain ⟨ti, hti, ⟨z, hz, hzs⟩, hts, htb⟩ := node_info
  have hlr : (loadCells ⟨w.heap.size, 0, none⟩ 259).run Try.prog w1.drew = .ok cs w1.drew := lc_row (w := w1.drew) hbx hcs
  have hbytes : (n + 1) * ti.bytes ≤ 140737488355328 := by
    have : (n + 1) * ti.bytes ≤ 1000 * 4000 := Nat.mul_le_mul (by omega) htb
    omega
  have hvb : ∀ k, v.ownBlock = some k → k < w.heap.size := fun k hk => (hown.lt k hk).2
  have c0 : w1.cell? ⟨t, 0, none⟩ = some v := ht1.cell 0
  have htl := ht1.lt
  have ho1d : w1.drew.ownsRow base 68 259 v n xs := ho1
  have hkt : ∀ (o : Obj) (w2 : World), (w1.drew.alloc o).grownBy w2 v.ownBlock → Blk w2 t 41 (refCells v s i d f) := fun o w2 hg => Blk.grown (Blk.alloc (w := w1.drew) ht1 o) hg (fun e => hne e.symm)
  have hnews : ∀ j u, cs.toList[j]? = some u → (w1.drew.alloc (.cells cs 68)).cell? ((⟨w1.heap.size, 0, none⟩ : Addr).add j) = some u := news_of_blk (l := cs.toList) (Blk.new w1.drew _ _)
  have hsz2 : (w1.drew.alloc (.cells cs 68)).heap.size = w1.heap.size + 1 := by simp
  have hbs2 : base ≤ (w1.drew.alloc (.cells cs 68)).heap.size := by rw [hsz2]; omega
  have HS := Lib.hid hs1
  have HBY := Lib.hid hbytes
  have HN := Lib.hid hnews
  have HS2 := Lib.hid hsz2
  have HB2 := Lib.hid hbs2
  clear hs1 hw1 hbase htb hbytes hnews hsz2 hbs2 ht hown hbx ht1 ho1
  go_region_law ((refine step_append_lies _ (by rfl) _ _ _ (by rfl) base 68 ti z 259 ti.bytes Try.underlying39 hti hz hts rfl hzs (by omega) v n xs (by rfl) (ho1d.alloc _) ⟨w1.heap.size, 0, none⟩ 1 1 cs.toList (by rfl) (by simp [hcs]) HN.out h1 (by omega) (by simp only [maxLen]; omega) HBY.out HB2.out (w1.heap.size + 1) HS2.out ?_; intro g cap w2 hown2 hgrow hat hlt; have hfz : w2.frozen? ⟨t, 0, none⟩ = false := (hkt _ _ hgrow).frozen 0; have hcz : w2.cell? ⟨t, 0, none⟩ = some v := (hkt _ _ hgrow).cell 0))
  all_goals
    have htk := hkt _ _ hgrow
    have hgt : g ≠ t := by
      rintro rfl
      rcases hat with h | h
      · exact hne h
      · omega
    have ht2 := htk.set_ 0 (.slice (some ⟨g, 0, none⟩) (n + 1) cap)
    have c2 := ht2.cell 0
    simp only [refCells] at c2
    have HAT := Lib.hid hat
    clear hat hlt hcz hfz c0 htl hlr
    go_wp2
    go_ret
    refine ⟨by simp, g, cap, ht2, ?_, ?_, hgt, ?_⟩
    · exact hown2.kept (row := some t) ⟨rfl, rfl, rfl, by simp [World.setCell], fun k hk hx => Below.heap_setCell _ _ _ _ (fun e => hx (by rw [e]))⟩ (.inr (by simpa [Value.ownBlock] using hgt))
    · rcases HAT.out with h | h
      · exact .inl h
      · right; rw [h, HS.out]; omega
    · have hk2 : Kept w.heap.size (t :: v.ownBlock.toList) w w1 := hk1.mono (Nat.le_refl _) (fun k _ hx => by simp at hx)
      have hs : w.heap.size ≤ w1.heap.size := by rw [HS.out]; omega
      have hk3 := (hk2.drew).alloc (o := .cells cs 68) hs
      refine (hk3.grown hgrow (by rw [HS2.out]; omega) (fun k hk => .inl (by simp [hk]))).setCell (.inl (by simp)) _
end Go.Proofs.Ytlmnincllndpnaa
