/- The walk of derive at a Cat, and derive at every tree. -/
import Derived.Test.YtlmnincllndpnaaDerWalksC
namespace Go.Proofs.Ytlmnincllndpnaa
open Go.RowKit
open Go.ChangeMaps (setBlock)
open Go.MapKept (Stamped)
attribute [local go_sem ↓] Go.wp_at_zero Go.wp_at_succ
attribute [local go_sem] Later.cell Later.frozen

set_option maxRecDepth 100000 in
set_option maxHeartbeats 1000000 in
theorem derive_cat (x y : Tr) (ihx : DeriveOk x) (ihy : DeriveOk y) : DeriveOk (.cat x y) := by
  intro c p o R M1 M2 m b A S w hd ht hc ho n1 n2 hS
  obtain ⟨k, pa, pb, ha, hb, hk, hp⟩ := ht
  have c0 : _ = some (Value.int .i64 2) := Blk.cell hp 0
  have c5 : _ = some (Value.slice (some ⟨k, 0, none⟩) 2 2) := Blk.cell hp 5
  have k0 : _ = some (Value.pointer (some ⟨pa, 0, none⟩)) := Blk.cell hk 0
  have k1 : _ = some (Value.pointer (some ⟨pb, 0, none⟩)) := Blk.cell hk 1
  have HX := Lib.hid ihx
  have HY := Lib.hid ihy
  have hSx : ∀ k ∈ Dv x (y :: c) b, S k := fun k hk => hS k (by rw [Dv]; exact List.mem_append.2 (.inl hk))
  have hdr : Below w.heap.size w w.drew := (Below.refl _ _).drew
  have hd0 : DMem w.drew R M1 M2 := hd.below hdr
  have hb0 : TreeIs w.drew y pb := hb.keep (below_keeps hdr)
  have ha0 : TreeIs w.drew x pa := ha.keep (below_keeps hdr)
  have hc0 : ChainIs w.drew c (.pointer o) := hc.keep (below_keeps hdr)
  have ho0 : OutIs w.drew m A S := ho.below hdr
  have hp0 : Blk w.drew p 52 (nodeCells 2 0 (.slice (some ⟨k, 0, none⟩) 2 2)) := hp
  have hk0 : Blk w.drew k 23 #[.pointer (some ⟨pa, 0, none⟩), .pointer (some ⟨pb, 0, none⟩)] := hk
  go_enter Try.func39, Try.ntmps39
  go_wp2_with fail
  go_region_held3 (fun w' => w'.cell? ⟨p, 5, none⟩ = some (.slice (some ⟨k, 0, none⟩) 2 2) ∧ w'.cell? ⟨k, 0, none⟩ = some (.pointer (some ⟨pa, 0, none⟩)) ∧ w'.cell? ⟨k, 1, none⟩ = some (.pointer (some ⟨pb, 0, none⟩))) (first | (exact ⟨(hs2 _ _ _ (hs1 _ _ _ hp0)).cell 5, (hs2 _ _ _ (hs1 _ _ _ hk0)).cell 0, (hs2 _ _ _ (hs1 _ _ _ hk0)).cell 1⟩) | (exact ⟨(hs1 _ _ _ hp0).cell 5, (hs1 _ _ _ hk0).cell 0, (hs1 _ _ _ hk0).cell 1⟩) | go_keep) (first | (go_at_call 38; refine (rest_calls y c pb o R M1 M2 w.drew hd0 hb0 hc0).mono ?_; rintro e w1 ⟨q, rfl, hq, hd1, hk1⟩; have hs1 := hd0.keeps1 hk1; have ho1 := ho0.stay hk1 hs1 (by simpa using n1)) | (go_at_call 39; refine (HX.out (y :: c) pa (some ⟨q, 0, none⟩) R M1 M2 m b A S w1 hd1 (ha0.keep hs1) hq ho1 n1 n2 hSx).mono ?_; rintro e w2 ⟨rfl, hd2, ho2, hk2⟩; have hs2 := hd1.keeps ho1 hk2))
  have hs02 := hs1.trans hs2
  have hp2 := hs02 _ _ _ hp0
  have hkk2 := hs02 _ _ _ hk0
  have ha2 := ha0.keep hs02
  have hb2 := hb0.keep hs02
  have hc2 := hc0.keep hs02
  have hkA : Kept w.heap.size [M1, M2, m] w w2 := ((Kept.of_below hdr).trans (hk1.into (Nat.le_refl _) (fun k h => by simp at h; simp [h]))).trans (hk2.into hk1.size (fun _ h => h))
  clear c5 k0 k1 hd0 hb0 ha0 hc0 ho0 hp0 hk0 hs1 hs2 hk1 hk2 hd1 ho1 hq hs02 c0 hd ho ha hb hc hp hk hdr
  have d5 : _ = some (Value.slice (some ⟨k, 0, none⟩) 2 2) := Blk.cell hp2 5
  have e0 : _ = some (Value.pointer (some ⟨pa, 0, none⟩)) := Blk.cell hkk2 0
  have e1 : _ = some (Value.pointer (some ⟨pb, 0, none⟩)) := Blk.cell hkk2 1
  obtain ⟨z, hz⟩ : ∃ z, null x = z := ⟨_, rfl⟩
  have hnul := nullable_calls x pa w2 ha2
  rw [hz] at hnul
  have HN := Lib.hid hnul
  have HZ := Lib.hid hz
  clear hnul hz
  go_wp2_with fail
  refine HN.out.mono ?_
  rintro e w3 ⟨rfl, rfl⟩
  cases z with
  | false =>
    go_wp2_with fail
    go_end0
    exact ⟨rfl, hd2, by rw [Dv, HZ.out]; simpa using ho2, hkA⟩
  | true =>
    have hSy : ∀ k ∈ Dv y c b, S k := fun k hk => hS k (by rw [Dv, HZ.out]; exact List.mem_append.2 (.inr (by simpa using hk)))
    go_wp2_with fail
    refine (HY.out c pb o R M1 M2 m b _ S w2 hd2 hb2 hc2 ho2 n1 n2 hSy).mono ?_
    rintro e w3 ⟨rfl, hd3, ho3, hk3⟩
    go_wp2_with fail
    go_end0
    exact ⟨rfl, hd3, by rw [Dv, HZ.out, ← List.append_assoc]; exact ho3, hkA.trans (hk3.into hkA.size (fun _ h => h))⟩

theorem derive_calls : ∀ t : Tr, DeriveOk t
  | .empty => derive_empty
  | .cls v => derive_cls v
  | .cat x y => derive_cat x y (derive_calls x) (derive_calls y)
  | .alt x y => derive_alt x y (derive_calls x) (derive_calls y)
  | .star x => derive_star x (derive_calls x)
  | .plus x => derive_plus x (derive_calls x)
  | .quest x => derive_quest x (derive_calls x)
end Go.Proofs.Ytlmnincllndpnaa
