/- Merged (what the claim wants of): BlkPlain2, BlkPlain3, BlkOpen, BlkPlain4, AggWalksA, AggWalksB, BlkPlain5, BlkPlain6, UnpWalksA, UnpWalksB. -/
import Derived.Test.YtdoiekknhnbepaaGreatDoorBap03
import Derived.Test.YtdoiekknhnbepaaGreatDoorBap04
import Derived.Test.YtdoiekknhnbepaaGreatDoorBap01
import Derived.Test.YtdoiekknhnbepaaGreatDoorBap02
import Derived.Laws.Bits64
set_option linter.unusedVariables false
set_option linter.unusedSimpArgs false
set_option maxRecDepth 100000
set_option maxHeartbeats 8000000
namespace Go.Proofs.YtdoiekknhnbepaaGreatDoor
section
open Go.RowKit
def Kbq : Nat → List Smp → List (List Smp)
 | 0, _ => []
 | _ + 1, [] => []
 | f + 1, x :: l => (x :: l).take 120 :: Kbq f ((x :: l).drop 120)
theorem Kjq : ∀ (f : Nat) (l : List Smp), l.length ≤ f → (Kbq f l).flatten = l
 | 0, l, h => by
  have h0 : l = [] := List.eq_nil_of_length_eq_zero (by omega); rw [h0]; rfl
 | _ + 1, [], _ => rfl
 | f + 1, x :: l, h => by
  have h2 : ((x :: l).drop 120).length ≤ f := by rw [List.length_drop]; rw [List.length_cons] at h ⊢; omega
  rw [Kbq, List.flatten_cons, Kjq f _ h2, List.take_append_drop]
theorem Kky : ∀ (f : Nat) (l p : List Smp), p ∈ Kbq f l → p ≠ [] ∧ p.length ≤ 120 ∧ p.Sublist l
 | 0, _, _, h => by simp [Kbq] at h
 | _ + 1, [], _, h => by simp [Kbq] at h
 | f + 1, x :: l, p, h => by
  rw [Kbq, List.mem_cons] at h; rcases h with rfl | h
  ·exact ⟨by simp, by rw [List.length_take]; omega, List.take_sublist _ _⟩
  ·obtain ⟨h1, h2, h3⟩ := Kky f _ p h; exact ⟨h1, h2, h3.trans (List.drop_sublist _ _)⟩
theorem Kdr : ∀ (f : Nat) (l : List Smp), (Kbq f l).length ≤ f
 | 0, _ => Nat.le_refl _
 | _ + 1, [] => Nat.zero_le _
 | f + 1, x :: l => by rw [Kbq, List.length_cons]; have := Kdr f ((x :: l).drop 120); omega
def aggsT : List Wnd → List (List UInt8)
 | [] => []
 | w :: l => [aggT (w :: l)]
def Kak (s : Ser) : List (List UInt8) := (Kbq s.samples.length s.samples).map Kcd ++ aggsT s.windows
def lensT (P : List (List UInt8)) : List UInt8 := P.flatMap fun p => uintT p.length
def serT (t : List Txt) (s : Ser) : List UInt8 := pk t s.labels ++ (uintT (Kak s).length ++ lensT (Kak s))
def decC (s : List UInt8) : Option (List Smp) := if (readC s).2 = true ∧ fitC none 0 (readC s).1 = true ∧ Kcd (readC s).1 = s then some (readC s).1 else none
def decP (res : Nat) (a : Ser) (s : List UInt8) : Option Ser := if res = 0 then (match decC s with | none => none | some l => some { a with samples := a.samples ++ l }) else (match aggR s with | none => none | some l => some { a with windows := a.windows ++ l })
def Kgk (res : Nat) (I C : List UInt8) : Nat → Ser → Nat → Nat → Option (Ser × Nat × Nat)
 | 0, a, i, j => some (a, i, j)
 | k + 1, a, i, j => match ruAt I i with
  | none => none
  | some (n, i') => if j + n ≤ C.length then (match decP res a ((C.drop j).take n) with | none => none | some a' => Kgk res I C k a' i' (j + n)) else none
def sersR (t : List Txt) (res : Nat) (I C : List UInt8) : Nat → List Ser → Nat → Nat → Option (List Ser × Nat × Nat)
 | 0, out, i, j => some (out, i, j)
 | g + 1, out, i, j => if (unpR t I i).2.2 ≠ 0 then none else match ruAt I (unpR t I i).2.1 with
  | none => none
  | some (k, i2) => match Kgk res I C k ⟨(unpR t I i).1, [], []⟩ i2 j with
   | none => none
   | some (s, i3, j3) => sersR t res I C g (out ++ [s]) i3 j3
def lowT (out : List Txt) (x : Txt) : Bool := decide (0 < out.length ∧ ¬ out[out.length - 1]! < x)
def Ker (I : List UInt8) : Nat → List Txt → Nat → Option (List Txt × Nat)
 | 0, out, i => some (out, i)
 | g + 1, out, i => if (Kbe I i).2.2 ≠ 0 then none else if lowT out (Kbe I i).1 = true then none else Ker I g (out ++ [(Kbe I i).1]) (Kbe I i).2.1
def tabR (I : List UInt8) (i : Nat) : Option (List Txt × Nat) := if (Kan I i).2.2 ≠ 0 then none else Ker I (Kan I i).1 [] (Kan I i).2.1
theorem Kgg : ∀ {l : List Smp}, Rises l ↔ l.Pairwise fun a b => a.t < b.t
 | [] => ⟨fun _ => List.Pairwise.nil, fun _ => trivial⟩
 | [x] => ⟨fun _ => List.pairwise_singleton _ _, fun _ => trivial⟩
 | x :: y :: l => by
  have ih := Kgg (l := y :: l); rw [Rises, List.pairwise_cons, ih]; constructor
  ·rintro ⟨h1, h2⟩; refine ⟨fun z hz => ?_, h2⟩; rcases List.mem_cons.1 hz with rfl | hz
   ·exact h1
   ·have := (List.pairwise_cons.1 h2).1 z hz; omega
  ·rintro ⟨h1, h2⟩; exact ⟨h1 y (by simp), h2⟩
theorem Knm : ∀ {l : List Int}, riseI l = true ↔ l.Pairwise fun a b => a < b
 | [] => ⟨fun _ => List.Pairwise.nil, fun _ => rfl⟩
 | [x] => ⟨fun _ => List.pairwise_singleton _ _, fun _ => rfl⟩
 | x :: y :: l => by
  have ih := Knm (l := y :: l); rw [riseI, Bool.and_eq_true, List.pairwise_cons, ih, decide_eq_true_eq]; constructor
  ·rintro ⟨h1, h2⟩; refine ⟨fun z hz => ?_, h2⟩; rcases List.mem_cons.1 hz with rfl | hz
   ·exact h1
   ·have := (List.pairwise_cons.1 h2).1 z hz; omega
  ·rintro ⟨h1, h2⟩; exact ⟨h1 y (by simp), h2⟩
theorem Kkz {f t : Int} {l : List Int} : Kdl f t l = true ↔ l ≠ [] ∧ (∀ x ∈ l, f ≤ x ∧ x < t) ∧ l.Pairwise fun a b => a < b := by
 unfold Kdl; simp only [Bool.and_eq_true, decide_eq_true_eq, List.all_eq_true, Knm, and_assoc]
theorem Kos {f t : Int} {l : List Smp} : Kdl f t (l.map Smp.t) = true ↔ l ≠ [] ∧ (∀ x ∈ l, f ≤ x.t ∧ x.t < t) ∧ Rises l := by
 rw [Kkz, Kgg, List.pairwise_map]; simp
theorem Kuk {l : List Smp} (h : ∀ x ∈ l, SmpOk x) (hr : Rises l) {f : Nat} {p : List Smp} (hp : p ∈ Kbq f l) : Khj p := by
 obtain ⟨h1, h2, h3⟩ := Kky f l p hp; exact ⟨fun x hx => h x (h3.subset hx), Kgg.2 ((Kgg.1 hr).sublist h3), h2⟩
theorem Qfp {p : List Smp} (h : Khj p) : decC (Kcd p) = some p := by
 unfold decC; rw [Kye h]; have : fitC none 0 p = true := (Kmd p none 0).2 ⟨fun x hx => ⟨(h.1 x hx).1, (h.1 x hx).2.1⟩, h.2.1, fun y x hy => (by cases hy), .inr (by have := h.2.2; omega)⟩; rw [if_pos ⟨rfl, this, rfl⟩]
def foldP (res : Nat) : Ser → List (List UInt8) → Option Ser
 | a, [] => some a
 | a, p :: P => match decP res a p with | none => none | some a' => foldP res a' P
theorem Kli {res : Nat} {I C : List UInt8} : ∀ (P : List (List UInt8)) {a a' : Ser} {i j : Nat} {r r' : List UInt8}, foldP res a P = some a' → (∀ p ∈ P, p.length < 2 ^ 64) → I.drop i = lensT P ++ r → C.drop j = P.flatten ++ r' → j ≤ C.length →
  Kgk res I C P.length a i j = some (a', i + (lensT P).length, j + P.flatten.length) ∧ I.drop (i + (lensT P).length) = r ∧ C.drop (j + P.flatten.length) = r' ∧ j + P.flatten.length ≤ C.length
 | [], a, a', i, j, r, r', hf, _, hI, hC, hj => by
  injection hf with hf; subst hf; exact ⟨rfl, by simpa [lensT] using hI, by simpa using hC, by simpa using hj⟩
 | p :: P, a, a', i, j, r, r', hf, hn, hI, hC, hj => by
  rw [foldP] at hf; have hI' : I.drop i = uintT p.length ++ (lensT P ++ r) := by rw [hI]; simp [lensT]
  obtain ⟨e1, e2⟩ := ru_of (hn p (by simp)) hI'; have hC' : C.drop j = p ++ (P.flatten ++ r') := by rw [hC]; simp
  have hlen : j + p.length ≤ C.length := by
   have := congrArg List.length hC'; rw [List.length_drop, List.length_append] at this; omega
  have htk : (C.drop j).take p.length = p := by rw [hC', List.take_left]
  have hdr : C.drop (j + p.length) = P.flatten ++ r' := by rw [← List.drop_drop, hC', List.drop_left]
  cases hd : decP res a p with
  | none => rw [hd] at hf; cases hf
  | some a1 =>
   rw [hd] at hf; obtain ⟨g1, g2, g3, g4⟩ := Kli P hf (fun q hq => hn q (by simp [hq])) e2 hdr hlen; have hl : (lensT (p :: P)).length = (uintT p.length).length + (lensT P).length := by simp [lensT]
   have hfl : (p :: P).flatten.length = p.length + P.flatten.length := by simp
   rw [List.length_cons, Kgk, e1]; dsimp only; rw [if_pos hlen, htk, hd]; dsimp only; rw [g1, hl, hfl, ← Nat.add_assoc, ← Nat.add_assoc]; exact ⟨rfl, g2, g3, g4⟩
theorem Kjz : ∀ (P : List (List Smp)) (a : Ser), (∀ p ∈ P, Khj p) → foldP 0 a (P.map Kcd) = some { a with samples := a.samples ++ P.flatten }
 | [], a, _ => by simp [foldP]
 | p :: P, a, h => by
  rw [List.map_cons, foldP, decP, if_pos rfl, Qfp (h p (by simp))]; dsimp only; rw [Kjz P _ (fun q hq => h q (by simp [hq]))]; simp
structure Kox (s : Ser) : Prop where
 smp : ∀ x ∈ s.samples, x.v < 2 ^ 64
 wnd : ∀ w ∈ s.windows, Kay w
 n : s.samples.length < 2 ^ 58
 m : s.windows.length < 2 ^ 58
theorem Kwc {c : Cont} {s : Ser} {res : Nat} (hres : c.res = (res : Int)) (hf : Kdk c s = true) (hb : Kox s) (h0 : 0 ≤ c.frm) (h1 : c.to_ ≤ 1125899906842625) : foldP res ⟨s.labels, [], []⟩ (Kak s) = some s := by
 unfold Kdk at hf
 by_cases h : c.res = 0
 ·rw [if_pos h, Bool.and_eq_true, decide_eq_true_eq, Kos] at hf; obtain ⟨hw, hne, hr, hs⟩ := hf; have hz : res = 0 := by omega
  subst hz; have hw' : s.windows = [] := List.eq_nil_of_length_eq_zero hw; have hp : ∀ p ∈ Kbq s.samples.length s.samples, Khj p := fun p hp => Kuk (fun x hx => ⟨by have := hr x hx; omega, by have := hr x hx; omega, hb.smp x hx⟩) hs hp
  unfold Kak; rw [hw', aggsT, List.append_nil, Kjz _ _ hp, Kjq _ _ (Nat.le_refl _)]; cases s
  simp_all
 ·rw [if_neg h, Bool.and_eq_true, Bool.and_eq_true, decide_eq_true_eq, Kkz] at hf; obtain ⟨⟨hfo, hs⟩, hne, _⟩ := hf; have hs' : s.samples = [] := List.eq_nil_of_length_eq_zero hs; have hz : res ≠ 0 := by omega
  unfold Kak; rw [hs']
  cases hw : s.windows with
  | nil => rw [hw] at hne; exact absurd rfl hne
  | cons w l =>
   have hag : aggR (aggT (w :: l)) = some (w :: l) := by
    rw [← hw]; exact Qeb hb.wnd hfo (Nat.lt_trans hb.m (by decide))
   show foldP res _ ([] ++ aggsT (w :: l)) = _
   rw [List.nil_append, aggsT, foldP, decP, if_neg hz, hag]; dsimp only; rw [foldP]; cases s
   simp_all
theorem Kpl {t : List Txt} (ha : Asc t) (ht : t.length < 2 ^ 64) {l : List Lb} (he : Kci l = 0) (hm : ∀ x ∈ texts l, x ∈ t) {I r : List UInt8} {i : Nat} (hi : i ≤ I.length) (h : I.drop i = pk t l ++ r) :
  unpR t I (i : Int) = (l, i + (pk t l).length, 0) ∧ I.drop (i + (pk t l).length) = r := by
 have e : I = I.take i ++ (pk t l ++ r) := by rw [← h, List.take_append_drop]
 have hl : (I.take i).length = i := by rw [List.length_take]; omega
 have := Qco ha ht he hm (I.take i) r; rw [← e, hl] at this; exact ⟨this, by rw [← List.drop_drop, h, List.drop_left]⟩
theorem Knj {t : List Txt} (ha : Asc t) (ht : t.length < 2 ^ 64) {c : Cont} {res : Nat} (hres : c.res = (res : Int)) (h0 : 0 ≤ c.frm) (h1 : c.to_ ≤ 1125899906842625) {I C : List UInt8} :
  ∀ (L out : List Ser) {i j : Nat} {r r' : List UInt8}, (∀ s ∈ L, Kci s.labels = 0 ∧ (∀ x ∈ texts s.labels, x ∈ t) ∧ Kdk c s = true ∧ Kox s ∧ ∀ p ∈ Kak s, p.length < 2 ^ 64) → i ≤ I.length → j ≤ C.length → I.drop i = L.flatMap (serT t) ++ r → C.drop j = L.flatMap (fun s => (Kak s).flatten) ++ r' →
  sersR t res I C L.length out i j = some (out ++ L, i + (L.flatMap (serT t)).length, j + (L.flatMap (fun s => (Kak s).flatten)).length) ∧ I.drop (i + (L.flatMap (serT t)).length) = r
 | [], out, i, j, r, r', _, _, _, hI, hC => ⟨by simp [sersR], by simpa using hI⟩
 | s :: L, out, i, j, r, r', hs, hi, hj, hI, hC => by
  obtain ⟨he, hm, hf, hb, hp⟩ := hs s (by simp); have hI1 : I.drop i = pk t s.labels ++ (uintT (Kak s).length ++ (lensT (Kak s) ++ (L.flatMap (serT t) ++ r))) := by rw [hI]; simp [serT]
  obtain ⟨e1, e2⟩ := Kpl ha ht he hm hi hI1
  have hc : (Kak s).length < 2 ^ 64 := by
   have a1 := Kdr s.samples.length s.samples; have a2 : (aggsT s.windows).length ≤ 1 := by cases s.windows <;> simp [aggsT]
   have a3 := hb.n; unfold Kak; rw [List.length_append, List.length_map]; omega
  obtain ⟨e3, e4⟩ := ru_of hc e2; have hC1 : C.drop j = (Kak s).flatten ++ (L.flatMap (fun s => (Kak s).flatten) ++ r') := by rw [hC]; simp
  obtain ⟨e5, e6, e7, e8⟩ := Kli (Kak s) (Kwc hres hf hb h0 h1) hp e4 hC1 hj
  have hi2 : i + (pk t s.labels).length + (uintT (Kak s).length).length + (lensT (Kak s)).length ≤ I.length := by
   have := congrArg List.length hI1; simp only [List.length_drop, List.length_append] at this; have h3 := (Kab (Kak s).length).1; omega
  obtain ⟨e9, e10⟩ := Knj ha ht hres h0 h1 L (out ++ [s]) (fun q hq => hs q (by simp [hq])) hi2 e8 e6 e7; have hl : ((s :: L).flatMap (serT t)).length = (pk t s.labels).length + (uintT (Kak s).length).length + (lensT (Kak s)).length + (L.flatMap (serT t)).length := by simp [serT]; omega
  have hl2 : ((s :: L).flatMap (fun s => (Kak s).flatten)).length = (Kak s).flatten.length + (L.flatMap (fun s => (Kak s).flatten)).length := by simp
  rw [List.length_cons, sersR, e1]; dsimp only; rw [if_neg (by simp), e3]; dsimp only; rw [e5]; dsimp only; rw [e9, hl, hl2]; refine ⟨?_, ?_⟩
  ·rw [List.append_assoc]; simp only [List.singleton_append, Option.some.injEq, Prod.mk.injEq, true_and]; omega
  ·rw [← e10]; congr 1; omega
theorem Kgs {I r : List UInt8} {i : Nat} {s : Txt} (hs : s.length < 2 ^ 64) (h : I.drop i = textT s ++ r) : Kbe I (i : Int) = (s, i + (textT s).length, 0) ∧ I.drop (i + (textT s).length) = r := by
 refine ⟨?_, by rw [← List.drop_drop, h, List.drop_left]⟩; unfold Kbe; rw [if_neg (by omega), Int.toNat_natCast, h, Kyv hs]
theorem Kwe {I r : List UInt8} {i v : Nat} (hv : v < 2 ^ 64) (h : I.drop i = uintT v ++ r) : Kan I (i : Int) = (v, i + (uintT v).length, 0) ∧ I.drop (i + (uintT v).length) = r := by
 refine ⟨?_, by rw [← List.drop_drop, h, List.drop_left]⟩; unfold Kan; rw [if_neg (by omega), Int.toNat_natCast, h, Kej hv]
theorem Klj {I : List UInt8} : ∀ (l out : List Txt) {i : Nat} {r : List UInt8}, (out ++ l).Pairwise (· < ·) → (∀ x ∈ l, x.length < 2 ^ 64) → I.drop i = l.flatMap textT ++ r → Ker I l.length out i = some (out ++ l, i + (l.flatMap textT).length) ∧ I.drop (i + (l.flatMap textT).length) = r
 | [], out, i, r, _, _, h => ⟨by simp [Ker], by simpa using h⟩
 | x :: l, out, i, r, hp, hz, h => by
  have h' : I.drop i = textT x ++ (l.flatMap textT ++ r) := by rw [h]; simp
  obtain ⟨e1, e2⟩ := Kgs (hz x (by simp)) h'
  have hlow : lowT out x = false := by
   unfold lowT; rw [decide_eq_false_iff_not]; rintro ⟨h1, h2⟩; apply h2; rw [getElem!_pos out _ (by omega)]; exact (List.pairwise_append.1 hp).2.2 _ (List.getElem_mem _) x (by simp)
  obtain ⟨e3, e4⟩ := Klj l (out ++ [x]) (by simpa using hp) (fun y hy => hz y (by simp [hy])) e2; rw [List.length_cons, Ker, e1]; dsimp only; rw [if_neg (by simp), hlow, if_neg (by simp), e3]; refine ⟨?_, ?_⟩
  ·simp [Nat.add_assoc]
  ·rw [← e4]; congr 1; simp [Nat.add_assoc]
theorem Kqc {t : List Txt} (ha : Asc t) (ht : t.length < 2 ^ 64) (hz : ∀ x ∈ t, x.length < 2 ^ 64) {I r : List UInt8} {i : Nat} (h : I.drop i = tabT t ++ r) : tabR I i = some (t, i + (tabT t).length) ∧ I.drop (i + (tabT t).length) = r := by
 have h' : I.drop i = uintT t.length ++ (t.flatMap textT ++ r) := by rw [h]; simp [tabT]
 obtain ⟨e1, e2⟩ := Kwe ht h'; obtain ⟨e3, e4⟩ := Klj t [] ha hz e2; unfold tabR; rw [e1]; dsimp only; rw [if_neg (by simp), e3]; refine ⟨?_, ?_⟩
 ·simp [tabT, Nat.add_assoc]
 ·rw [← e4]; congr 1; simp [tabT, Nat.add_assoc]
instance lbEq : DecidableEq Lb := fun a b => by
 cases a with
 | mk n v =>
  cases b with
  | mk n' v' => exact if h : n = n' ∧ v = v' then isTrue (by rw [h.1, h.2]) else isFalse fun e => h (by injection e with e1 e2; exact ⟨e1, e2⟩)
instance ltBDec : DecidableRel ltB := fun x y => by unfold ltB; infer_instance
theorem Kdx (x : Lb) : ¬ ltB x x := by
 rintro (h | ⟨_, h⟩) <;> exact List.lt_irrefl _ h
theorem Koy {x y : Lb} (h1 : ¬ ltB x y) (h2 : ¬ ltB y x) : x = y := by
 unfold ltB at h1 h2; have hn : x.n = y.n := Kea (fun h => h1 (.inl h)) (fun h => h2 (.inl h)); have hv : x.v = y.v := Kea (fun h => h1 (.inr ⟨hn, h⟩)) (fun h => h2 (.inr ⟨hn.symm, h⟩)); cases x; cases y
 simp_all
def Qgg (S : List (List Lb)) (K : List Lb) : Prop := K.Pairwise ltB ∧ ∀ x, x ∈ K ↔ ∃ s ∈ S, x ∈ s
theorem Kus : ∀ {t t' : List Lb}, t.Pairwise ltB → t'.Pairwise ltB → (∀ x, x ∈ t ↔ x ∈ t') → t = t'
 | [], [], _, _, _ => rfl
 | [], b :: s', _, _, h => by have := (h b).2 (by simp); simp at this
 | a :: s, [], _, _, h => by have := (h a).1 (by simp); simp at this
 | a :: s, b :: s', h1, h2, h => by
  have ha := List.pairwise_cons.1 h1; have hb := List.pairwise_cons.1 h2
  have hab : a = b := by
   apply Koy
   ·intro hlt; rcases List.mem_cons.1 ((h a).1 (by simp)) with e | e
    ·exact Kdx a (by rw [e] at hlt ⊢; exact hlt)
    ·exact Kdx a (Kfy hlt (hb.1 a e))
   ·intro hlt; rcases List.mem_cons.1 ((h b).2 (by simp)) with e | e
    ·exact Kdx b (by rw [e] at hlt ⊢; exact hlt)
    ·exact Kdx b (Kfy hlt (ha.1 b e))
  subst hab; rw [Kus ha.2 hb.2 fun x => ?_]; constructor
  ·intro hx; rcases List.mem_cons.1 ((h x).1 (by simp [hx])) with e | e
   ·subst e; exact absurd (ha.1 x hx) (Kdx x)
   ·exact e
  ·intro hx; rcases List.mem_cons.1 ((h x).2 (by simp [hx])) with e | e
   ·subst e; exact absurd (hb.1 x hx) (Kdx x)
   ·exact e
def insK (x : Lb) : List Lb → List Lb
 | [] => [x]
 | y :: l => if ltB x y then x :: y :: l else if ltB y x then y :: insK x l else y :: l
theorem Kmb (x : Lb) : ∀ (l : List Lb) (z : Lb), z ∈ insK x l ↔ z = x ∨ z ∈ l
 | [], z => by simp [insK]
 | y :: l, z => by
  rw [insK]
  split
  ·simp
  ·split
   ·rw [List.mem_cons, Kmb x l z, List.mem_cons]; constructor
    ·rintro (h | h | h)
     ·exact .inr (.inl h)
     ·exact .inl h
     ·exact .inr (.inr h)
    ·rintro (h | h | h)
     ·exact .inr (.inl h)
     ·exact .inl h
     ·exact .inr (.inr h)
   ·rename_i h1 h2
    have e := Koy h1 h2; subst e; simp
theorem Kpo (x : Lb) : ∀ (l : List Lb), l.Pairwise ltB → (insK x l).Pairwise ltB
 | [], _ => List.pairwise_singleton _ _
 | y :: l, h => by
  have hc := List.pairwise_cons.1 h; rw [insK]
  split
  ·rename_i h1
   refine List.pairwise_cons.2 ⟨fun z hz => ?_, h⟩; rcases List.mem_cons.1 hz with rfl | hz
   ·exact h1
   ·exact Kfy h1 (hc.1 z hz)
  ·split
   ·rename_i h1 h2
    refine List.pairwise_cons.2 ⟨fun z hz => ?_, Kpo x l hc.2⟩; rcases (Kmb x l z).1 hz with rfl | hz
    ·exact h2
    ·exact hc.1 z hz
   ·exact h
def keysOf (S : List (List Lb)) : List Lb := S.flatten.foldr insK []
theorem Kee (S : List (List Lb)) : Qgg S (keysOf S) := by
 have key : ∀ l : List Lb, (l.foldr insK []).Pairwise ltB ∧ ∀ x, x ∈ l.foldr insK [] ↔ x ∈ l := by
  intro l
  induction l with
  | nil => exact ⟨List.Pairwise.nil, fun _ => Iff.rfl⟩
  | cons y l ih => exact ⟨Kpo y _ ih.1, fun x => by rw [List.foldr_cons, Kmb, ih.2, List.mem_cons]⟩
 obtain ⟨h1, h2⟩ := key S.flatten; exact ⟨h1, fun x => (h2 x).trans (by rw [List.mem_flatten])⟩
def Kaj (S : List (List Lb)) (x : Lb) : List Nat := (List.range S.length).filter fun i => decide (x ∈ S.getD i [])
theorem Kll : ∀ (l : List Nat) (a : Nat) (first : Bool), l.Pairwise (· < ·) → (∀ x ∈ l, x ≤ 4611686018427387904) → (∀ x ∈ l, a < x ∨ (first = true ∧ a ≤ x)) → Kgp a first l
 | [], _, _, _, _, _ => trivial
 | x :: l, a, first, hp, hm, ha => by
  have hc := List.pairwise_cons.1 hp; exact ⟨ha x (by simp), hm x (by simp), Kll l x false hc.2 (fun y hy => hm y (by simp [hy])) (fun y hy => .inl (hc.1 y hy))⟩
theorem Ktz {S : List (List Lb)} (h : S.length ≤ 4611686018427387904) (x : Lb) : Kgp 0 true (Kaj S x) := by
 refine Kll _ 0 true ?_ ?_ (fun x _ => .inr ⟨rfl, Nat.zero_le _⟩)
 ·exact List.Pairwise.sublist List.filter_sublist List.pairwise_lt_range
 ·intro y hy; have := List.mem_range.1 (List.mem_filter.1 hy).1; omega
theorem Kfp (S : List (List Lb)) (x : Lb) : (Kaj S x).length ≤ S.length := by
 have := List.length_filter_le (fun i => decide (x ∈ S.getD i [])) (List.range S.length); rwa [List.length_range] at this
def keyT (S : List (List Lb)) (x : Lb) : List UInt8 := textT x.n ++ (textT x.v ++ postT (Kaj S x))
def Kbi (S : List (List Lb)) : List UInt8 := uintT (keysOf S).length ++ (keysOf S).flatMap (keyT S)
structure Fil where
 mt : List UInt8
 ck : List UInt8
 ix : List UInt8
instance filEq : DecidableEq Fil := fun a b => by
 cases a with
 | mk m c i =>
  cases b with
  | mk m' c' i' => exact if h : m = m' ∧ c = c' ∧ i = i' then isTrue (by rw [h.1, h.2.1, h.2.2]) else isFalse fun e => h (by injection e with e1 e2 e3; exact ⟨e1, e2, e3⟩)
def Kad (c : Cont) : List (List Lb) := c.series.map Ser.labels
def allS (S : List (List Lb)) : List Txt := S.flatMap texts
def tabOf (S : List (List Lb)) : List Txt := Lib.compact ((allS S).mergeSort fun x y => decide (x ≤ y))
theorem Kdy (S : List (List Lb)) : IsTab (allS S) (tabOf S) := Qdl _
def metaB (c : Cont) : List UInt8 := uintT c.res.toNat ++ (intT c.frm ++ intT c.to_)
def Kch (c : Cont) : List UInt8 := c.series.flatMap fun s => (Kak s).flatten
def Kbd (c : Cont) : List UInt8 := tabT (tabOf (Kad c)) ++ (uintT c.series.length ++ (c.series.flatMap (serT (tabOf (Kad c))) ++ Kbi (Kad c)))
def Kbc (c : Cont) : Fil := ⟨sealT (metaB c), sealT (Kch c), sealT (Kbd c)⟩
def ordS : List Ser → Bool
 | [] => true
 | [_] => true
 | a :: b :: l => decide (cmpL a.labels b.labels < 0) && ordS (b :: l)
def fitB (c : Cont) : Bool := decide (0 ≤ c.res) && decide (c.res < 3) && decide (0 ≤ c.frm) && decide (c.frm < c.to_) && decide (c.to_ ≤ 1125899906842625) && c.series.all (fun s => Kcw s.labels && Kdk c s) && ordS c.series
theorem Kew {c : Cont} : fitB c = true ↔ 0 ≤ c.res ∧ c.res < 3 ∧ 0 ≤ c.frm ∧ c.frm < c.to_ ∧ c.to_ ≤ 1125899906842625 ∧ (∀ s ∈ c.series, Kcw s.labels = true ∧ Kdk c s = true) ∧ ordS c.series = true := by
 unfold fitB; simp only [Bool.and_eq_true, decide_eq_true_eq, List.all_eq_true, and_assoc]
def Kfr (f : Fil) : Option Cont := match Kat f.mt, Kat f.ck, Kat f.ix with
 | .ok M, .ok C, .ok I => match ruAt M 0 with
  | none => none
  | some (r, m1) => match riAt M m1 with
   | none => none
   | some (a, m2) => match riAt M m2 with
    | none => none
    | some (b, _) => match tabR I 0 with
     | none => none
     | some (t, i0) => match ruAt I i0 with
      | none => none
      | some (n, i1) => match sersR t (min r 9) I C n [] i1 0 with
       | none => none
       | some (out, _, _) => some ⟨(min r 9 : Nat), a, b, out⟩
 | _, _, _ => none
def Keq (f : Fil) : Option Cont := match Kfr f with
 | none => none
 | some c => if fitB c = true ∧ Kbc c = f then some c else none
structure Kdn (c : Cont) : Prop where
 ser : ∀ s ∈ c.series, Kox s
 n : c.series.length < 2 ^ 58
 t : ∀ x ∈ tabOf (Kad c), x.length < 2 ^ 64
 tn : (tabOf (Kad c)).length < 2 ^ 64
 p : ∀ s ∈ c.series, ∀ p ∈ Kak s, p.length < 2 ^ 64
theorem Kig {l : List Lb} (h : Kcw l = true) : Kci l = 0 := by
 unfold Kcw at h; rw [Bool.and_eq_true, decide_eq_true_eq, decide_eq_true_eq] at h; unfold Kci; rw [if_neg (by simp [h.1]), if_pos h.2]
theorem Kip {c : Cont} (hf : fitB c = true) (hb : Kdn c) : Keq (Kbc c) = some c := by
 obtain ⟨h0, h1, h2, h3, h4, h5, h6⟩ := Kew.1 hf
 have hmem : ∀ s ∈ c.series, ∀ x ∈ texts s.labels, x ∈ tabOf (Kad c) := by
  intro s hs x hx; rw [(Kdy (Kad c)).2]; exact List.mem_flatMap.2 ⟨s.labels, List.mem_map.2 ⟨s, hs, rfl⟩, hx⟩
 obtain ⟨res, hres⟩ : ∃ res : Nat, c.res = (res : Int) := ⟨c.res.toNat, by omega⟩; have hm0 : (metaB c).drop 0 = uintT res ++ (intT c.frm ++ intT c.to_) := by rw [List.drop_zero, metaB, hres, Int.toNat_natCast]
 obtain ⟨e1, k1⟩ := ru_of (by omega) hm0; obtain ⟨e2, k2⟩ := ri_of (by omega) (by omega) k1; have k2' : (metaB c).drop (0 + (uintT res).length + (intT c.frm).length) = intT c.to_ ++ [] := by rw [k2, List.append_nil]
 obtain ⟨e3, k3⟩ := ri_of (by omega) (by omega) k2'; have hi0 : (Kbd c).drop 0 = tabT (tabOf (Kad c)) ++ (uintT c.series.length ++ (c.series.flatMap (serT (tabOf (Kad c))) ++ Kbi (Kad c))) := rfl; obtain ⟨e4, k4⟩ := Kqc (Kdy (Kad c)).1 hb.tn hb.t hi0; obtain ⟨e5, k5⟩ := ru_of (Nat.lt_trans hb.n (by decide)) k4
 have hle : 0 + (tabT (tabOf (Kad c))).length + (uintT c.series.length).length ≤ (Kbd c).length := by
  unfold Kbd; simp only [List.length_append]; omega
 have hck : (Kch c).drop 0 = c.series.flatMap (fun s => (Kak s).flatten) ++ [] := by rw [List.drop_zero, List.append_nil]; rfl
 have hmin : min res 9 = res := by omega
 obtain ⟨e6, _⟩ := Knj (Kdy (Kad c)).1 hb.tn hres h2 h4 (I := Kbd c) (C := Kch c) c.series [] (fun s hs => ⟨Kig (h5 s hs).1, hmem s hs, (h5 s hs).2, hb.ser s hs, hb.p s hs⟩) hle (Nat.zero_le _) k5 hck
 have hp : Kfr (Kbc c) = some c := by
  unfold Kfr Kbc; simp only [Klq]; rw [e1]; dsimp only; rw [e2]; dsimp only; rw [e3]; dsimp only; rw [e4]; dsimp only; rw [e5, hmin]; dsimp only; rw [e6]; dsimp only; rw [← hres]; rfl
 unfold Keq; rw [hp]; dsimp only; rw [if_pos ⟨hf, rfl⟩]
theorem Qcm {a b : Cont} (ha : fitB a = true) (hb : fitB b = true) (ba : Kdn a) (bb : Kdn b) (h : Kbc a = Kbc b) : a = b := by
 have := Kip ha ba; rw [h, Kip hb bb] at this; injection this with this; exact this.symm
def Kbp : List (List UInt8) → Nat
 | [] => 190
 | s :: l => match Kat s with
  | .error e => e
  | .ok _ => Kbp l
end
section
open Go.RowKit
open Lib renaming hid → Jh
attribute [local go_sem ↓] Go.wp_at_zero Go.wp_at_succ
attribute [local go_sem] Later.cell
theorem Klt {s : List UInt8} {c : Nat} (h : Kat s = .error c) : c = 20 ∨ c = 33 ∨ c ≠ 0 := by
 by_cases h0 : c = 0
 ·subst h0; unfold Kat at h
  split at h
  ·injection h with h; omega
  ·split at h
   ·cases h
   ·injection h with h; omega
 ·exact .inr (.inr h0)
def OpenO (w : World) (r : Except Nat (List UInt8)) (e : Ending) (w' : World) : Prop := match r with
 | .ok b => ∃ p, e = .returned (.pointer (some ⟨p, 0, none⟩)) ∧ w.heap.size ≤ p ∧ Rdr p ⟨b.toArray⟩ 0 w' ∧ Below w.heap.size w w'
 | .error _ => (∃ f, f ≠ 0 ∧ e = Kaq f) ∧ Below w.heap.size w w'
theorem Kge (s : ByteArray) (hs : s.size ≤ 140737488351232) (w : World) (hT : Kbz w) : Calls Tryz.prog 76 #[.string s] w (OpenO w (Kat s.data.toList)) := by
 have hu := Kkm s hs w hT; obtain ⟨R, hR⟩ : ∃ R, Kat s.data.toList = R := ⟨_, rfl⟩; rw [hR] at hu ⊢
 cases R with
 | error c =>
  have hc : c ≠ 0 := by
   rcases Klt hR with h | h | h
   ·omega
   ·omega
   ·exact h
  have e0 : ((c : Int) != 0) = true := by simp; omega
  have HU := Jh hu; clear hu hR; go_enter Tryz.func76, Tryz.ntmps76
  go_wp2_with fail
  refine HU.out.mono ?_; rintro _ w1 ⟨rfl, hb⟩; have HB := Jh hb; clear hb; go_wp2_with fail
  refine Kae rfl ?_; exact ⟨⟨c, hc, rfl⟩, HB.out⟩
 | ok b =>
  obtain ⟨X, hX⟩ : ∃ X : ByteArray, (⟨b.toArray⟩ : ByteArray) = X := ⟨_, rfl⟩; unfold OpenO; dsimp only at hu ⊢; rw [hX] at hu ⊢; have HU := Jh hu; clear hu hR hX; go_enter Tryz.func76, Tryz.ntmps76
  go_wp2_with fail
  refine HU.out.mono ?_; rintro _ w1 ⟨rfl, hb⟩; have HB := Jh hb; clear hb; go_wp2_with fail
  go_ret
  exact ⟨_, rfl, HB.out.size, Blk.new _ _ _, HB.out.alloc HB.out.size _⟩
theorem Kle (l : List Txt) (A : Option Addr) (n c : Nat) (w : World) (h : Strs w A n l) (hn : n ≤ 1048576) (hz : ∀ x ∈ l, x.length ≤ 140737488351232) (hT : Kbz w) :
  Calls Tryz.prog 75 #[.slice A n c] w fun e w' => e = .returned (.int .i64 (Kbp l : Nat)) ∧ Below w.heap.size w w' := by
 have HL := Jh h.len; have HS := Jh h; have HT := Jh hT; have HZ := Jh hz; obtain ⟨R, hR⟩ : ∃ R, Kbp l = R := ⟨_, rfl⟩; rw [hR]; have HR := Jh hR; clear h hT hR hz; go_enter Tryz.func75, Tryz.ntmps75
 go_wp2_with fail
 go_loopg [9] n (fun g s9 wr => ∃ i : Nat, i + g = n ∧ s9 = .int .i64 (i : Int) ∧ Kbp (l.drop i) = R ∧ Below w.heap.size w wr)
 case atStart => exact ⟨0, by omega, rfl, by rw [List.drop_zero]; exact HR.out, Below.refl _ _⟩
 case round =>
  obtain ⟨i, hig, rfl, hbl, hbr⟩ := hrel; have HIG := Jh hig; have HBL := Jh hbl; have HBR := Jh hbr; clear hig hbl
  by_cases hi : i < n
  ·have el : decide (i < n) = true := by rw [decide_eq_true_eq]; omega
   have hil : i < l.length := by have := HL.out; omega
   obtain ⟨b, off, hA, hb, hc⟩ := (HS.out.below hbr).at_ hi; subst hA; have hd : l.drop i = l[i]! :: l.drop (i + 1) := by rw [getElem!_pos l i hil]; exact List.drop_eq_getElem_cons hil
   have hzi := HZ.out l[i]! (by rw [getElem!_pos l i hil]; exact List.getElem_mem hil); have hbl := HBL.out; rw [hd, Kbp] at hbl; obtain ⟨x, hx⟩ : ∃ x, l[i]! = x := ⟨_, rfl⟩; rw [hx] at hc hzi hbl; unfold txtV at hc; obtain ⟨X, hX⟩ : ∃ X : ByteArray, (⟨x.toArray⟩ : ByteArray) = X := ⟨_, rfl⟩; have hXd : X.data.toList = x := by rw [← hX]
   have hXs : X.size ≤ 140737488351232 := by rw [← Kah, hXd]; exact hzi
   rw [hX] at hc; have hu := Kkm X hXs wr (Kbz.below HT.out HT.out.lt HBR.out); rw [hXd] at hu; clear hd hx hX hXd hzi hXs
   cases hr : Kat x with
   | error cc =>
    rw [hr] at hu hbl
    have hc0 : cc ≠ 0 := by
     rcases Klt hr with h | h | h
     ·omega
     ·omega
     ·exact h
    have e0 : ((cc : Int) != 0) = true := by simp; omega
    have HU := Jh hu; have HBL2 := Jh hbl; clear hu hbl hr hbr; go_wp2_with fail
    refine HU.out.mono ?_; rintro _ w1 ⟨rfl, hb1⟩; have HB1 := Jh (then_ HBR.out hb1); clear hb1; go_wp2_with fail
    go_ret
    exact ⟨Kkp (by rw [← HBL2.out]), HB1.out⟩
   | ok bb =>
    rw [hr] at hu hbl; obtain ⟨Y, hY⟩ : ∃ X : ByteArray, (⟨bb.toArray⟩ : ByteArray) = X := ⟨_, rfl⟩; dsimp only at hu hbl; rw [hY] at hu; have HU := Jh hu; have HBL2 := Jh hbl; clear hu hbl hr hbr hY; go_wp2_with fail
    refine HU.out.mono ?_; rintro _ w1 ⟨rfl, hb1⟩; have HB1 := Jh (then_ HBR.out hb1); clear hb1; go_wp2_with fail
    go_roundg (gk - 1)
    case measure => have := HIG.out; omega
    case rel => exact ⟨i + 1, by have := HIG.out; omega, by go_num, HBL2.out, HB1.out⟩
  ·have el : decide (i < n) = false := by rw [decide_eq_false_iff_not]; omega
   have hre : 190 = R := by
    have h1 := HBL.out; rw [List.drop_eq_nil_of_le (by have := HL.out; omega)] at h1; exact h1
   have HRE := Jh hre; clear hre; go_wp2_with fail
   go_ret
   exact ⟨Kkp (by rw [← HRE.out]; rfl), HBR.out⟩
end
section
open Go.RowKit
def skipR (I : List UInt8) : Nat → Nat → Option Nat
 | 0, i => some i
 | k + 1, i => match ruAt I i with
  | none => none
  | some (_, i') => skipR I k i'
def setsR (t : List Txt) (I : List UInt8) : Nat → List (List Lb) → Nat → Option (List (List Lb) × Nat)
 | 0, S, i => some (S, i)
 | g + 1, S, i => if (unpR t I i).2.2 ≠ 0 then none else match ruAt I (unpR t I i).2.1 with
  | none => none
  | some (k, i2) => match skipR I k i2 with
   | none => none
   | some i3 => setsR t I g (S ++ [(unpR t I i).1]) i3
def keysR (I : List UInt8) (q : Lb) : Nat → List Nat → Nat → Option (List Nat × Nat)
 | 0, out, i => some (out, i)
 | g + 1, out, i => if (Kbe I i).2.2 ≠ 0 then none else if (Kbe I (Kbe I i).2.1).2.2 ≠ 0 then none else match postR I (Kbe I (Kbe I i).2.1).2.1 with
  | none => none
  | some (l, i3) => keysR I q g (if (⟨(Kbe I i).1, (Kbe I (Kbe I i).2.1).1⟩ : Lb) = q then l else out) i3
def Khm (I : List UInt8) (q : Lb) : Option (List Nat) := match tabR I 0 with
 | none => none
 | some (t, i0) => match ruAt I i0 with
  | none => none
  | some (n, i1) => match setsR t I n [] i1 with
   | none => none
   | some (S, i2) => match ruAt I i2 with
    | none => none
    | some (k, i3) => match keysR I q k [] i3 with
     | none => none
     | some (out, i4) => if i4 = I.length ∧ Kbi S = I.drop i2 then some out else none
theorem Koh {I : List UInt8} : ∀ (P : List (List UInt8)) {i : Nat} {r : List UInt8}, (∀ p ∈ P, p.length < 2 ^ 64) → I.drop i = lensT P ++ r → skipR I P.length i = some (i + (lensT P).length) ∧ I.drop (i + (lensT P).length) = r
 | [], i, r, _, h => ⟨rfl, by simpa [lensT] using h⟩
 | p :: P, i, r, hn, h => by
  have h' : I.drop i = uintT p.length ++ (lensT P ++ r) := by rw [h]; simp [lensT]
  obtain ⟨e1, e2⟩ := ru_of (hn p (by simp)) h'; obtain ⟨e3, e4⟩ := Koh P (fun q hq => hn q (by simp [hq])) e2; have hl : (lensT (p :: P)).length = (uintT p.length).length + (lensT P).length := by simp [lensT]
  rw [List.length_cons, skipR, e1]; dsimp only; rw [e3, hl, ← Nat.add_assoc]; exact ⟨rfl, e4⟩
theorem Knw {t : List Txt} (ha : Asc t) (ht : t.length < 2 ^ 64) {I : List UInt8} :
  ∀ (L : List Ser) (S : List (List Lb)) {i : Nat} {r : List UInt8}, (∀ s ∈ L, Kci s.labels = 0 ∧ (∀ x ∈ texts s.labels, x ∈ t) ∧ (Kak s).length < 2 ^ 64 ∧ ∀ p ∈ Kak s, p.length < 2 ^ 64) → i ≤ I.length → I.drop i = L.flatMap (serT t) ++ r →
  setsR t I L.length S i = some (S ++ L.map Ser.labels, i + (L.flatMap (serT t)).length) ∧ I.drop (i + (L.flatMap (serT t)).length) = r
 | [], S, i, r, _, _, hI => ⟨by simp [setsR], by simpa using hI⟩
 | s :: L, S, i, r, hs, hi, hI => by
  obtain ⟨he, hm, hc, hp⟩ := hs s (by simp); have hI1 : I.drop i = pk t s.labels ++ (uintT (Kak s).length ++ (lensT (Kak s) ++ (L.flatMap (serT t) ++ r))) := by rw [hI]; simp [serT]
  obtain ⟨e1, e2⟩ := Kpl ha ht he hm hi hI1; obtain ⟨e3, e4⟩ := ru_of hc e2; obtain ⟨e5, e6⟩ := Koh (Kak s) hp e4
  have hi2 : i + (pk t s.labels).length + (uintT (Kak s).length).length + (lensT (Kak s)).length ≤ I.length := by
   have := congrArg List.length hI1; simp only [List.length_drop, List.length_append] at this; have h3 := (Kab (Kak s).length).1; omega
  obtain ⟨e9, e10⟩ := Knw ha ht L (S ++ [s.labels]) (fun q hq => hs q (by simp [hq])) hi2 e6; have hl : ((s :: L).flatMap (serT t)).length = (pk t s.labels).length + (uintT (Kak s).length).length + (lensT (Kak s)).length + (L.flatMap (serT t)).length := by simp [serT]; omega
  rw [List.length_cons, setsR, e1]; dsimp only; rw [if_neg (by simp), e3]; dsimp only; rw [e5]; dsimp only; rw [e9, hl]; refine ⟨?_, ?_⟩
  ·rw [List.append_assoc]; simp only [List.singleton_append, List.map_cons, Option.some.injEq, Prod.mk.injEq, true_and]; omega
  ·rw [← e10]; congr 1; omega
theorem Kog {I : List UInt8} {S : List (List Lb)} (hS : S.length ≤ 4611686018427387904) (q : Lb) : ∀ (K : List Lb) (out : List Nat) {i : Nat} {r : List UInt8}, K.Pairwise ltB → (∀ x ∈ K, x.n.length < 2 ^ 64 ∧ x.v.length < 2 ^ 64) → I.drop i = K.flatMap (keyT S) ++ r →
  keysR I q K.length out i = some (if q ∈ K then Kaj S q else out, i + (K.flatMap (keyT S)).length) ∧ I.drop (i + (K.flatMap (keyT S)).length) = r
 | [], out, i, r, _, _, h => ⟨by simp [keysR], by simpa using h⟩
 | x :: K, out, i, r, hp, hz, h => by
  have hc := List.pairwise_cons.1 hp; have h' : I.drop i = textT x.n ++ (textT x.v ++ (postT (Kaj S x) ++ (K.flatMap (keyT S) ++ r))) := by rw [h]; simp [keyT]
  obtain ⟨e1, e2⟩ := Kgs (hz x (by simp)).1 h'; obtain ⟨e3, e4⟩ := Kgs (hz x (by simp)).2 e2; have hl0 := Kfp S x; obtain ⟨e5, e6⟩ := Qbj (Ktz hS x) (by omega) e4; obtain ⟨e7, e8⟩ := Kog hS q K (if x = q then Kaj S x else out) hc.2 (fun y hy => hz y (by simp [hy])) e6; have hl : ((x :: K).flatMap (keyT S)).length = (textT x.n).length + (textT x.v).length + (postT (Kaj S x)).length + (K.flatMap (keyT S)).length := by simp [keyT]; omega
  have hx : (⟨x.n, x.v⟩ : Lb) = x := rfl; rw [List.length_cons, keysR, e1]; dsimp only; rw [if_neg (by simp), e3]; dsimp only; rw [if_neg (by simp), e5]; dsimp only; rw [e7, hl]; refine ⟨?_, ?_⟩
  ·simp only [Option.some.injEq, Prod.mk.injEq]; refine ⟨?_, by omega⟩
   by_cases hq : x = q
   ·subst hq; have : x ∉ K := fun hm => Kdx x (hc.1 x hm)
    rw [if_neg this, if_pos rfl, if_pos (by simp)]
   ·rw [if_neg hq]
    have : (q ∈ x :: K) ↔ q ∈ K := by
     rw [List.mem_cons]; exact ⟨fun h => h.resolve_left (fun e => hq e.symm), .inr⟩
    by_cases hk : q ∈ K
    ·rw [if_pos hk, if_pos (this.2 hk)]
    ·rw [if_neg hk, if_neg (fun h => hk (this.1 h))]
  ·rw [← e8]; congr 1; omega
theorem Kjv {S : List (List Lb)} {q : Lb} (h : q ∉ keysOf S) : Kaj S q = [] := by
 unfold Kaj; rw [List.filter_eq_nil_iff]; intro i hi; rw [decide_eq_true_eq]; intro hm; apply h; rw [(Kee S).2]; have hl := List.mem_range.1 hi; rw [List.getD_eq_getElem?_getD, List.getElem?_eq_getElem hl] at hm; exact ⟨S[i], List.getElem_mem hl, hm⟩
theorem Kyi {c : Cont} (hf : fitB c = true) (hb : Kdn c) (hz : ∀ x ∈ keysOf (Kad c), x.n.length < 2 ^ 64 ∧ x.v.length < 2 ^ 64) (hk : (keysOf (Kad c)).length < 2 ^ 64) (q : Lb) : Khm (Kbd c) q = some (Kaj (Kad c) q) := by
 obtain ⟨h0, h1, h2, h3, h4, h5, h6⟩ := Kew.1 hf
 have hmem : ∀ s ∈ c.series, ∀ x ∈ texts s.labels, x ∈ tabOf (Kad c) := by
  intro s hs x hx; rw [(Kdy (Kad c)).2]; exact List.mem_flatMap.2 ⟨s.labels, List.mem_map.2 ⟨s, hs, rfl⟩, hx⟩
 have hi0 : (Kbd c).drop 0 = tabT (tabOf (Kad c)) ++ (uintT c.series.length ++ (c.series.flatMap (serT (tabOf (Kad c))) ++ Kbi (Kad c))) := rfl; obtain ⟨e4, k4⟩ := Kqc (Kdy (Kad c)).1 hb.tn hb.t hi0; obtain ⟨e5, k5⟩ := ru_of (Nat.lt_trans hb.n (by decide)) k4
 have hle : 0 + (tabT (tabOf (Kad c))).length + (uintT c.series.length).length ≤ (Kbd c).length := by
  unfold Kbd; simp only [List.length_append]; omega
 have hpn : ∀ s ∈ c.series, (Kak s).length < 2 ^ 64 := by
  intro s hs; have a1 := Kdr s.samples.length s.samples; have a2 : (aggsT s.windows).length ≤ 1 := by cases s.windows <;> simp [aggsT]
  have a3 := (hb.ser s hs).n; unfold Kak; rw [List.length_append, List.length_map]; omega
 obtain ⟨e6, k6⟩ := Knw (Kdy (Kad c)).1 hb.tn c.series [] (fun s hs => ⟨Kig (h5 s hs).1, hmem s hs, hpn s hs, hb.p s hs⟩) hle k5; have k6' := k6; unfold Kbi at k6'; obtain ⟨e7, k7⟩ := ru_of hk k6'
 have hS : (Kad c).length ≤ 4611686018427387904 := by
  have := hb.n; unfold Kad; rw [List.length_map]; omega
 have k7' : (Kbd c).drop _ = (keysOf (Kad c)).flatMap (keyT (Kad c)) ++ [] := k7.trans (List.append_nil _).symm; obtain ⟨e8, k8⟩ := Kog hS q (keysOf (Kad c)) [] (Kee _).1 hz k7'
 have hout : (if q ∈ keysOf (Kad c) then Kaj (Kad c) q else []) = Kaj (Kad c) q := by
  split
  ·rfl
  ·rename_i h; exact (Kjv h).symm
 rw [hout] at e8
 have hend : 0 + (tabT (tabOf (Kad c))).length + (uintT c.series.length).length + (c.series.flatMap (serT (tabOf (Kad c)))).length + (uintT (keysOf (Kad c)).length).length + ((keysOf (Kad c)).flatMap (keyT (Kad c))).length = (Kbd c).length := by
  unfold Kbd Kbi; simp only [List.length_append]; omega
 unfold Khm; rw [e4]; dsimp only; rw [e5]; dsimp only; rw [e6]; dsimp only; rw [e7]; dsimp only; rw [e8]; dsimp only; rw [if_pos ⟨hend, k6.symm⟩]
end
section
open Go.RowKit
attribute [local go_sem ↓] Go.wp_at_zero Go.wp_at_succ
attribute [local go_sem] Later.cell
def wndV (w : Wnd) : Value := .agg #[.int .i64 w.start, .int .i64 w.count, .int .u64 (w.sum : Int), .int .u64 (w.min : Int), .int .u64 (w.max : Int), .int .u64 (w.last : Int)]
def Kcr (w a : Wnd) (first : Bool) : Nat :=
 if w.start < 0 ∨ 1125899906842624 < w.start then 91 else if first = false ∧ w.start ≤ a.start then 90 else if w.count < 1 ∨ 4611686018427387904 < w.count then 110 else 0
theorem Kga (w a : Wnd) (first : Bool) : Kcr w a first = 0 ↔ Kdm w a first = 0 := by
 unfold Kcr Kdm
 split
 ·simp
 ·split
  ·simp
  ·split <;> simp
theorem Kiw (x a : Wnd) (first : Bool) (w : World) :
  Calls Tryz.prog 155 #[wndV x, wndV a, .bool first] w fun e w' => e = .returned (.int .i64 (Kcr x a first : Nat)) ∧ Below w.heap.size w w' := by
 obtain ⟨r, hr⟩ : ∃ r, Kcr x a first = r := ⟨_, rfl⟩
 rw [hr]; unfold Kcr at hr
 have hb : Below w.heap.size w ((w.alloc (.cells #[.int .i64 x.start, .int .i64 x.count, .int .u64 (x.sum : Int), .int .u64 (x.min : Int), .int .u64 (x.max : Int), .int .u64 (x.last : Int)] 135)).alloc (.cells #[.int .i64 a.start, .int .i64 a.count, .int .u64 (a.sum : Int), .int .u64 (a.min : Int), .int .u64 (a.max : Int), .int .u64 (a.last : Int)] 135)) :=
  ((Below.refl _ _).alloc (Nat.le_refl _) _).alloc (by simp) _
 have HB := Lib.hid hb; unfold wndV
 by_cases b1 : x.start < 0
 ·rw [if_pos (.inl b1)] at hr; subst hr; have d1 : decide (x.start < 0) = true := decide_eq_true b1; go_enter Tryz.func155, Tryz.ntmps155
  go_wp2_with fail
  go_ret
  exact ⟨rfl, HB.out⟩
 have d1 : decide (x.start < 0) = false := decide_eq_false b1
 by_cases b2 : 1125899906842624 < x.start
 ·rw [if_pos (.inr b2)] at hr; subst hr; have d2 : decide (1125899906842624 < x.start) = true := decide_eq_true b2; go_enter Tryz.func155, Tryz.ntmps155
  go_wp2_with fail
  go_ret
  exact ⟨rfl, HB.out⟩
 have d2 : decide (1125899906842624 < x.start) = false := decide_eq_false b2; rw [if_neg (by omega)] at hr
 by_cases b3 : first = false ∧ x.start ≤ a.start
 ·obtain ⟨rfl, b3⟩ := b3; rw [if_pos ⟨rfl, b3⟩] at hr; subst hr; have d3 : decide (x.start ≤ a.start) = true := decide_eq_true b3; go_enter Tryz.func155, Tryz.ntmps155
  go_wp2_with fail
  go_ret
  exact ⟨rfl, HB.out⟩
 rw [if_neg b3] at hr; have HF : Hid (first = true ∨ (first = false ∧ ¬ x.start ≤ a.start)) := Lib.hid (by cases first <;> simp_all); clear b3
 by_cases b4 : x.count < 1
 ·rw [if_pos (.inl b4)] at hr; subst hr; have d4 : decide (x.count < 1) = true := decide_eq_true b4; rcases HF.out with rfl | ⟨rfl, b3⟩
  ·go_enter Tryz.func155, Tryz.ntmps155
   go_wp2_with fail
   go_ret
   exact ⟨rfl, HB.out⟩
  ·have d3 : decide (x.start ≤ a.start) = false := decide_eq_false b3; go_enter Tryz.func155, Tryz.ntmps155
   go_wp2_with fail
   go_ret
   exact ⟨rfl, HB.out⟩
 have d4 : decide (x.count < 1) = false := decide_eq_false b4
 by_cases b5 : 4611686018427387904 < x.count
 ·rw [if_pos (.inr b5)] at hr; subst hr; have d5 : decide (4611686018427387904 < x.count) = true := decide_eq_true b5; rcases HF.out with rfl | ⟨rfl, b3⟩
  ·go_enter Tryz.func155, Tryz.ntmps155
   go_wp2_with fail
   go_ret
   exact ⟨rfl, HB.out⟩
  ·have d3 : decide (x.start ≤ a.start) = false := decide_eq_false b3; go_enter Tryz.func155, Tryz.ntmps155
   go_wp2_with fail
   go_ret
   exact ⟨rfl, HB.out⟩
 have d5 : decide (4611686018427387904 < x.count) = false := decide_eq_false b5; rw [if_neg (by omega)] at hr; subst hr; rcases HF.out with rfl | ⟨rfl, b3⟩
 ·go_enter Tryz.func155, Tryz.ntmps155
  go_wp2_with fail
  go_ret
  exact ⟨rfl, HB.out⟩
 ·have d3 : decide (x.start ≤ a.start) = false := decide_eq_false b3; go_enter Tryz.func155, Tryz.ntmps155
  go_wp2_with fail
  go_ret
  exact ⟨rfl, HB.out⟩
def fldsV (q : Nat) : Value := .agg #[.pointer (some ⟨q, 2, none⟩), .pointer (some ⟨q, 3, none⟩), .pointer (some ⟨q, 4, none⟩), .pointer (some ⟨q, 5, none⟩)]
theorem Kgv (q : Nat) (w : World) : Calls Tryz.prog 154 #[.pointer (some ⟨q, 0, none⟩)] w fun e w' => e = .returned (fldsV q) ∧ Below w.heap.size w w' := by
 go_enter Tryz.func154, Tryz.ntmps154
 go_upto_region 1 with fail
 have hb : Below w.heap.size w (w.alloc (.cells #[.pointer none, .pointer none, .pointer none, .pointer none] 246)) := (Below.refl _ _).alloc (Nat.le_refl _) _; have hq : Blk (w.alloc (.cells #[.pointer none, .pointer none, .pointer none, .pointer none] 246)) w.heap.size 246 #[.pointer none, .pointer none, .pointer none, .pointer none] := Blk.new _ _ _; obtain ⟨w1, hw1⟩ : ∃ w1, w.alloc (.cells #[.pointer none, .pointer none, .pointer none, .pointer none] 246) = w1 := ⟨_, rfl⟩; obtain ⟨p, hp⟩ : ∃ p, w.heap.size = p := ⟨_, rfl⟩; rw [hw1, hp] at hb hq; rw [hw1]; rw [hp]; clear hw1; refine Kag 13 (by kernel_rfl) (by kernel_rfl) ?_; simp only [List.take_succ_cons, List.take_zero, List.drop_succ_cons, List.drop_zero]
 repeat (go_big_quiet_step (fail))
 refine wpQuiet_nil ?_; rintro w2 ⟨⟨_, hb2⟩, rfl⟩; have hq2 := hq.below hb2 hq.lt; have p0 : w2.cell? ⟨p, 0, none⟩ = some (.pointer none) := hq2.cell 0; have p1 : w2.cell? ⟨p, 1, none⟩ = some (.pointer none) := hq2.cell 1; have p2 : w2.cell? ⟨p, 2, none⟩ = some (.pointer none) := hq2.cell 2; have p3 : w2.cell? ⟨p, 3, none⟩ = some (.pointer none) := hq2.cell 3; have z := hq2.frozen; have z0 := z 0; have z1 := z 1; have z2 := z 2; have z3 := z 3; clear z; go_wp2_with fail
 have hq3 := (((hq2.set_ 0 (.pointer (some ⟨q, 2, none⟩))).set_ 1 (.pointer (some ⟨q, 3, none⟩))).set_ 2 (.pointer (some ⟨q, 4, none⟩))).set_ 3 (.pointer (some ⟨q, 5, none⟩)); have hb3 := ((((hb.trans (hb2.mono (by have := hb.size; omega))).setCell (p := ⟨p, 0, none⟩) (Nat.le_refl _) (.pointer (some ⟨q, 2, none⟩))).setCell (p := ⟨p, 1, none⟩) (Nat.le_refl _) (.pointer (some ⟨q, 3, none⟩))).setCell (p := ⟨p, 2, none⟩) (Nat.le_refl _) (.pointer (some ⟨q, 4, none⟩))).setCell (p := ⟨p, 3, none⟩) (Nat.le_refl _) (.pointer (some ⟨q, 5, none⟩)); refine bodyPost_ret (Kdo rfl _ _ ⟨p, 0, none⟩ _ rfl (run_loadVar_row _ p 246 246 _ (0, 0) _ hq3 Tryz.underlying246 rfl (by kernel_rfl))) rfl ?_; exact ⟨rfl, by rw [hp]; exact hb3⟩
end
section
open Go.RowKit
open Lib renaming hid → Jh
open List renaming length_append → Jd
attribute [local go_sem ↓] Go.wp_at_zero Go.wp_at_succ
attribute [local go_sem] Later.cell
def aggE : Wnd → Bool → List Wnd → Nat
 | _, _, [] => 0
 | a, first, w :: l => if Kcr w a first ≠ 0 then Kcr w a first else aggE w false l
theorem Kkk : ∀ (l : List Wnd) (a : Wnd) (first : Bool), aggE a first l = 0 ↔ Kdw a first l = true
 | [], _, _ => by simp [aggE, Kdw]
 | w :: l, a, first => by
  have ih := Kkk l w false; have h := Kga w a first
  rw [aggE, Kdw, Bool.and_eq_true, decide_eq_true_eq, ← h, ← ih]
  by_cases h0 : Kcr w a first = 0
  ·rw [if_neg (by simp [h0])]; simp [h0]
  ·rw [if_pos h0]; simp [h0]
def aggO (l : List Wnd) : List UInt8 × Nat := if aggE wnd0 true l = 0 then (aggT l, 0) else ([], aggE wnd0 true l)
def fldsT (a x : Wnd) (k : Nat) : List UInt8 := ([uintT (x.sum ^^^ a.sum), uintT (x.min ^^^ a.min), uintT (x.max ^^^ a.max), uintT (x.last ^^^ a.last)].take k).flatten
theorem Knk (a x : Wnd) : fldsT a x 1 = fldsT a x 0 ++ uintT (x.sum ^^^ a.sum) := by simp [fldsT]
theorem Knu (a x : Wnd) : fldsT a x 2 = fldsT a x 1 ++ uintT (x.min ^^^ a.min) := by simp [fldsT]
theorem Kms (a x : Wnd) : fldsT a x 3 = fldsT a x 2 ++ uintT (x.max ^^^ a.max) := by simp [fldsT]
theorem Kok (a x : Wnd) : fldsT a x 4 = fldsT a x 3 ++ uintT (x.last ^^^ a.last) := by simp [fldsT]
theorem Kzn (a x : Wnd) : wndT a x = uintT (x.start - a.start).toNat ++ (uintT x.count.toNat ++ fldsT a x 4) := by simp [wndT, fldsT]
theorem Bld.set {B b p i : Nat} {l : List UInt8} {T : TypeId} {cs : Array Value} {w : World} (h : Bld B b l w) (hp : Blk w p T cs) (hT : T ≠ 5) (hpb : b ≠ p) (u : Value) : Bld B b l (w.setCell ⟨p, i, none⟩ u) := by
 have key : ∀ x, Lib.BuilderAtF 109 5 B b x (Lib.byteCells l) w → Lib.BuilderAtF 109 5 B b x (Lib.byteCells l) (w.setCell ⟨p, i, none⟩ u) := by
  rintro x ⟨h1, v, h2, h3, h4⟩
  have hne : v.ownBlock ≠ some p := by
   intro e; rcases h3.2 with ⟨rfl, _⟩ | ⟨g, cap, cur, fz, rfl, _, hg, _⟩
   ·cases e
   ·injection e with e; have e : g = p := e; subst e; unfold Blk at hp; rw [hg] at hp; injection hp with hp; injection hp with _ hp; exact hT hp.symm
  exact ⟨h1, v, Blk.far h2 (p := ⟨p, i, none⟩) hpb u, h3.kept (row := some p) ⟨rfl, rfl, rfl, by simp [World.setCell], fun k _ hk => Below.heap_setCell _ _ _ _ (fun e => hk (by rw [e]))⟩ (.inr hne), h4⟩
 rcases h with h | h
 ·exact .inl (key _ h)
 ·exact .inr (key _ h)
theorem Kxg : 0 ≤ wnd0.start ∧ wnd0.start ≤ 1125899906842624 ∧ Kay wnd0 := ⟨by decide, by decide, by decide, by decide, by decide, by decide⟩
def lastW : Wnd → List Wnd → Wnd
 | a, [] => a
 | _, w :: l => lastW w l
theorem Kmm : ∀ (l : List Wnd) (a x : Wnd), lastW a (l ++ [x]) = x
 | [], _, _ => rfl
 | _ :: l, _, x => Kmm l _ x
theorem Kon : ∀ (l : List Wnd) (a x : Wnd), wndsT a (l ++ [x]) = wndsT a l ++ wndT (lastW a l) x
 | [], a, x => by simp [wndsT, lastW]
 | w :: l, a, x => by rw [List.cons_append, wndsT, wndsT, Kon l, lastW, List.append_assoc]
theorem Kiy (l : List Wnd) (A : Option Addr) (n cap : Nat) (w : World) (hE : Elems w w.heap.size 6 Kaw A n l) (hn : n ≤ 1099511627776) (hv : ∀ x ∈ l, Kay x) :
  Calls Tryz.prog 118 #[.slice A n cap] w fun e w' => e = .returned (.tuple #[.string ⟨(aggO l).1.toArray⟩, .int .i64 ((aggO l).2 : Nat)]) ∧ Below w.heap.size w w' := by
 have hlen := hE.len; have HE := Jh hE; have HV := Jh hv; have HLEN := Jh hlen; obtain ⟨E, hEE⟩ : ∃ E, aggE wnd0 true l = E := ⟨_, rfl⟩; have HEE := Jh hEE; have HUN := Jh (fun w => Kau n (by omega) w); have h0 : Bld w.heap.size w.heap.size [] (w.alloc (.cells #[.pointer none, .slice none 0 0] 109)) := Bld.new w (Nat.le_refl _); have hb0 : Below w.heap.size w (w.alloc (.cells #[.pointer none, .slice none 0 0] 109)) := (Below.refl _ _).alloc (Nat.le_refl _) _; have hs0 : (w.alloc (.cells #[.pointer none, .slice none 0 0] 109)).heap.size = w.heap.size + 1 := by simp
 clear hE hv hEE hlen; go_enter Tryz.func118, Tryz.ntmps118
 go_upto_region 2 with fail
 obtain ⟨w1, hw1⟩ : ∃ w1, w.alloc (.cells #[.pointer none, .slice none 0 0] 109) = w1 := ⟨_, rfl⟩; rw [hw1] at h0 hb0 hs0; rw [hw1]; obtain ⟨b, hb⟩ : ∃ b, w.heap.size = b := ⟨_, rfl⟩; rw [hb] at h0 hb0 hs0 HE ⊢; have HB := Jh hb; have HL1 := Jh h0; have HB1 := Jh hb0; clear hw1 h0 hb0 hb; go_wp2_with fail
 refine (HUN.out w1).mono ?_; rintro _ w2 ⟨rfl, hb2⟩; have HL2 := Jh (HL1.out.below hb2); have HB2 := Jh (HB1.out.trans (hb2.mono (by omega))); have hB2 : b ≤ w2.heap.size := by have := hb2.size; omega
 go_wp2_with fail
 refine (Kax b b [] ⟨(uintT n).toArray⟩ w2 HL2.out (by show 0 + (uintT n).toArray.size ≤ _; have := (Kab n).2; simp only [List.size_toArray]; omega) hB2).mono ?_; rintro _ w3 ⟨rfl, h5, h6, _⟩; have h5 : Bld b b (uintT n) w3 := h5; have hB3 : b ≤ w3.heap.size := Nat.le_trans hB2 h6.size; have hbl := h5.lt; have hc : Below w3.heap.size w3 (w3.alloc (.cells #[.int .i64 wnd0.start, .int .i64 wnd0.count, .int .u64 (wnd0.sum : Int), .int .u64 (wnd0.min : Int), .int .u64 (wnd0.max : Int), .int .u64 (wnd0.last : Int)] 135)) := (Below.refl _ _).alloc (Nat.le_refl _) _; have ha : Blk (w3.alloc (.cells #[.int .i64 wnd0.start, .int .i64 wnd0.count, .int .u64 (wnd0.sum : Int), .int .u64 (wnd0.min : Int), .int .u64 (wnd0.max : Int), .int .u64 (wnd0.last : Int)] 135)) w3.heap.size 135 #[.int .i64 wnd0.start, .int .i64 wnd0.count, .int .u64 (wnd0.sum : Int), .int .u64 (wnd0.min : Int), .int .u64 (wnd0.max : Int), .int .u64 (wnd0.last : Int)] := Blk.new _ _ _; obtain ⟨w4, hw4⟩ : ∃ w4, w3.alloc (.cells #[.int .i64 wnd0.start, .int .i64 wnd0.count, .int .u64 (wnd0.sum : Int), .int .u64 (wnd0.min : Int), .int .u64 (wnd0.max : Int), .int .u64 (wnd0.last : Int)] 135) = w4 := ⟨_, rfl⟩; have hw4' : w3.alloc (.cells #[.int .i64 0, .int .i64 0, .int .u64 0, .int .u64 0, .int .u64 0, .int .u64 0] 135) = w4 := hw4; obtain ⟨ba, hba⟩ : ∃ ba, w3.heap.size = ba := ⟨_, rfl⟩; rw [hw4] at hc ha; rw [hba] at ha; have hbb : b < ba := by omega
 have HL4 := Jh (h5.below hc); have HB4 := Jh ((HB2.out.trans h6).trans (hc.mono hB3)); have HA4 := Jh ha; have HBA := Jh hba; clear h5 h6 hb2 hc ha hw4 hbl; go_upto_region 4 with fail
 try rw [hw4']
 try rw [hba]
 clear hw4' hba; go_wp2_with fail
 go_loopg [19] n (fun g s19 wr => ∃ i : Nat, i + g = n ∧ s19 = .int .i64 (i : Int) ∧ aggE (lastW wnd0 (l.take i)) (decide (i = 0)) (l.drop i) = E ∧ Bld b b (uintT n ++ wndsT wnd0 (l.take i)) wr ∧ Below b w wr ∧ Blk wr ba 135 #[.int .i64 (lastW wnd0 (l.take i)).start, .int .i64 (lastW wnd0 (l.take i)).count, .int .u64 ((lastW wnd0 (l.take i)).sum : Int), .int .u64 ((lastW wnd0 (l.take i)).min : Int), .int .u64 ((lastW wnd0 (l.take i)).max : Int), .int .u64 ((lastW wnd0 (l.take i)).last : Int)] ∧ (0 ≤ (lastW wnd0 (l.take i)).start ∧ (lastW wnd0 (l.take i)).start ≤ 1125899906842624 ∧ Kay (lastW wnd0 (l.take i))) ∧ (uintT n ++ wndsT wnd0 (l.take i)).length ≤ 11 + 66 * i)
 case atStart => exact ⟨0, by omega, rfl, HEE.out, by simpa [wndsT] using HL4.out, HB4.out, HA4.out, Kxg, by have := (Kab n).2; simp [wndsT]; omega⟩
 case round =>
  obtain ⟨i, hi, rfl, he, hld, hbr, hab, hst, hle⟩ := hrel; have HI := Jh hi; have HEI := Jh he; have HL := Jh hld; have HR := Jh hbr; have HAB := Jh hab; have HST := Jh hst; have HLE := Jh hle; have hBr : b ≤ wr.heap.size := Nat.le_trans (by rw [HB.out]; exact Nat.le_refl _) hbr.size; clear he hld hbr hab hst hle
  by_cases hin : i < n
  ·have hil : i < l.length := by have := HLEN.out; omega
   obtain ⟨bk, off, rfl, hbk, hcell⟩ := HE.out.2 (by omega); have hx : ∀ j v, (Kaw l[i])[j]? = some v → wr.cell? ⟨bk, off + i * 6 + j, none⟩ = some v := fun j v hv => (HR.out.cell (p := ⟨bk, off + i * 6 + j, none⟩) hbk).trans (hcell i l[i] (List.getElem?_eq_getElem hil) j v hv)
   have hvi := HV.out l[i] (List.getElem_mem hil); have hdr : l.drop i = l[i] :: l.drop (i + 1) := List.drop_eq_getElem_cons hil; have htk : l.take (i + 1) = l.take i ++ [l[i]] := List.take_succ_eq_append_getElem hil; obtain ⟨x, hxx⟩ : ∃ x, l[i] = x := ⟨_, rfl⟩; rw [hxx] at hx hvi hdr htk; have m0 : wr.cell? ⟨bk, off + i * 6, none⟩ = some (.int .i64 x.start) := hx 0 _ rfl; have m1 : wr.cell? ⟨bk, off + i * 6 + 1, none⟩ = some (.int .i64 x.count) := hx 1 _ rfl; have m2 : wr.cell? ⟨bk, off + i * 6 + 2, none⟩ = some (.int .u64 (x.sum : Int)) := hx 2 _ rfl; have m3 : wr.cell? ⟨bk, off + i * 6 + 3, none⟩ = some (.int .u64 (x.min : Int)) := hx 3 _ rfl; have m4 : wr.cell? ⟨bk, off + i * 6 + 4, none⟩ = some (.int .u64 (x.max : Int)) := hx 4 _ rfl; have m5 : wr.cell? ⟨bk, off + i * 6 + 5, none⟩ = some (.int .u64 (x.last : Int)) := hx 5 _ rfl; have HDR := Jh hdr; have HTK := Jh htk; have HBX := Jh hvi; obtain ⟨a, haa⟩ : ∃ a, lastW wnd0 (l.take i) = a := ⟨_, rfl⟩; rw [haa] at HEI HAB HST; have HAA := Jh haa; obtain ⟨L, hL⟩ : ∃ L, uintT n ++ wndsT wnd0 (l.take i) = L := ⟨_, rfl⟩; rw [hL] at HL HLE; have HLL := Jh hL; have HBA2 : Hid (Kay a) := Jh HST.out.2.2; have el2 : (i : Int) < (n : Int) := by omega
   clear hi hdr htk hxx haa hL hcell hx hvi; have hc5 : Below wr.heap.size wr (wr.alloc (.cells #[.int .i64 x.start, .int .i64 x.count, .int .u64 (x.sum : Int), .int .u64 (x.min : Int), .int .u64 (x.max : Int), .int .u64 (x.last : Int)] 135)) := (Below.refl _ _).alloc (Nat.le_refl _) _; have hq5 : Blk (wr.alloc (.cells #[.int .i64 x.start, .int .i64 x.count, .int .u64 (x.sum : Int), .int .u64 (x.min : Int), .int .u64 (x.max : Int), .int .u64 (x.last : Int)] 135)) wr.heap.size 135 #[.int .i64 x.start, .int .i64 x.count, .int .u64 (x.sum : Int), .int .u64 (x.min : Int), .int .u64 (x.max : Int), .int .u64 (x.last : Int)] := Blk.new _ _ _; go_upto_region 7 with fail
   obtain ⟨w5, hw5⟩ : ∃ w5, wr.alloc (.cells #[.int .i64 x.start, .int .i64 x.count, .int .u64 (x.sum : Int), .int .u64 (x.min : Int), .int .u64 (x.max : Int), .int .u64 (x.last : Int)] 135) = w5 := ⟨_, rfl⟩; obtain ⟨qw, hqw⟩ : ∃ qw, wr.heap.size = qw := ⟨_, rfl⟩; rw [hw5] at hc5 hq5
   try rw [hw5]
   rw [hqw] at hq5
   try rw [hqw]
   have hqb : ba < qw := by have := HAB.out.lt; omega
   have HL5 := Jh (HL.out.below hc5); have HR5 := Jh (HR.out.trans (hc5.mono hBr)); have HA5 := Jh (HAB.out.below hc5 HAB.out.lt); have HX5 := Jh hq5; have hB5 : b ≤ w5.heap.size := Nat.le_trans hBr hc5.size; have x0 : w5.cell? ⟨qw, 0, none⟩ = some (.int .i64 x.start) := hq5.cell 0; have x1 : w5.cell? ⟨qw, 1, none⟩ = some (.int .i64 x.count) := hq5.cell 1; have x2 : w5.cell? ⟨qw, 2, none⟩ = some (.int .u64 (x.sum : Int)) := hq5.cell 2; have x3 : w5.cell? ⟨qw, 3, none⟩ = some (.int .u64 (x.min : Int)) := hq5.cell 3; have x4 : w5.cell? ⟨qw, 4, none⟩ = some (.int .u64 (x.max : Int)) := hq5.cell 4; have x5 : w5.cell? ⟨qw, 5, none⟩ = some (.int .u64 (x.last : Int)) := hq5.cell 5; have a0 : w5.cell? ⟨ba, 0, none⟩ = some (.int .i64 a.start) := HA5.out.cell 0; have a1 : w5.cell? ⟨ba, 1, none⟩ = some (.int .i64 a.count) := HA5.out.cell 1; have a2 : w5.cell? ⟨ba, 2, none⟩ = some (.int .u64 (a.sum : Int)) := HA5.out.cell 2; have a3 : w5.cell? ⟨ba, 3, none⟩ = some (.int .u64 (a.min : Int)) := HA5.out.cell 3; have a4 : w5.cell? ⟨ba, 4, none⟩ = some (.int .u64 (a.max : Int)) := HA5.out.cell 4; have a5 : w5.cell? ⟨ba, 5, none⟩ = some (.int .u64 (a.last : Int)) := HA5.out.cell 5; clear hc5 hq5 hw5 hqw m0 m1 m2 m3 m4 m5; obtain ⟨fst, hfst⟩ : ∃ fst, decide (i = 0) = fst := ⟨_, rfl⟩; have hf2 : ((i : Int) == 0) = fst := by rw [← hfst]; cases i <;> simp <;> omega
   rw [hfst] at HEI; have HFST := Jh hfst; obtain ⟨se, hse⟩ : ∃ se, Kcr x a fst = se := ⟨_, rfl⟩; have HFO := Jh (Kiw x a fst w5); unfold wndV at HFO; rw [hse] at HFO; have HSE := Jh hse; have hei := HEI.out; rw [HDR.out, aggE, hse] at hei; have hse9 : se ≤ 110 := by (rw [← hse]; unfold Kcr; repeat' split); all_goals omega
   clear hse hfst; go_wp2_with fail
   refine HFO.out.mono ?_; rintro _ w6 ⟨rfl, h6⟩; have HL6 := Jh (HL5.out.below h6); have HR6 := Jh (HR5.out.trans (h6.mono hB5)); have HA6 := Jh (HA5.out.below h6 HA5.out.lt); have HX6 := Jh (HX5.out.below h6 HX5.out.lt); have hB6 : b ≤ w6.heap.size := Nat.le_trans hB5 h6.size; clear h6 x0 x1 x2 x3 x4 x5 a0 a1 a2 a3 a4 a5
   by_cases hs0 : se = 0
   ·subst hs0; rw [if_neg (by simp)] at hei; have HEN := Jh hei; clear hei; have hfo := (Kfn x a fst).1 ((Kga x a fst).1 HSE.out); obtain ⟨k1, k2, k3, k4⟩ := hfo.1; have hst0 := HST.out.1
    have hge : a.start ≤ x.start := by
     rcases hfo.2 with hf | hf
     ·have : i = 0 := by
       have := HFST.out; rw [hf] at this; exact of_decide_eq_true this
      have ha := HAA.out; rw [this] at ha; rw [← ha]; exact k1
     ·omega
    obtain ⟨y1, hy1⟩ : ∃ y1, (x.start - a.start).toNat = y1 := ⟨_, rfl⟩; obtain ⟨y2, hy2⟩ : ∃ y2, x.count.toNat = y2 := ⟨_, rfl⟩; have hy1i : x.start - a.start = (y1 : Int) := by omega
    have hy2i : x.count = (y2 : Int) := by omega
    have hw1 : wrap64 (x.start - a.start) = (y1 : Int) := by unfold wrap64; omega
    have hu1 : IntKind.u64.wrap (y1 : Int) = (y1 : Int) := by rw [IntKind.wrap_u64]; omega
    have hu2 : IntKind.u64.wrap (y2 : Int) = (y2 : Int) := by rw [IntKind.wrap_u64]; omega
    have HU1 := Jh (fun w => Kau y1 (by omega) w); have HU2 := Jh (fun w => Kau y2 (by omega) w); have HY1 := Jh hy1; have HY2 := Jh hy2; have x0 : w6.cell? ⟨qw, 0, none⟩ = some (.int .i64 x.start) := HX6.out.cell 0; have a0 : w6.cell? ⟨ba, 0, none⟩ = some (.int .i64 a.start) := HA6.out.cell 0; clear hy1 hy2; go_wp2_with fail
    refine (HU1.out w6).mono ?_; rintro _ w7 ⟨rfl, h7⟩; have HL7 := Jh (HL6.out.below h7); have HR7 := Jh (HR6.out.trans (h7.mono hB6)); have HA7 := Jh (HA6.out.below h7 HA6.out.lt); have HX7 := Jh (HX6.out.below h7 HX6.out.lt); have hB7 : b ≤ w7.heap.size := Nat.le_trans hB6 h7.size; clear h7; clear x0 a0; go_wp2_with fail
    refine (Kax b b (L) ⟨(uintT y1).toArray⟩ w7 HL7.out (by show _ + (uintT y1).toArray.size ≤ _; have := (Kab y1).2; have := HLE.out; have := HI.out; simp only [List.size_toArray, Jd]; omega) hB7).mono ?_; rintro _ w8 ⟨rfl, h5, h6, h7⟩; have HL8 := Jh h5; have HR8 := Jh (HR7.out.trans h6); have HA8 := Jh (h7.blk HA7.out (by omega) (by decide)); have HX8 := Jh (h7.blk HX7.out (by omega) (by decide)); have hB8 : b ≤ w8.heap.size := Nat.le_trans hB7 h6.size; clear h5 h6 h7; have x1 : w8.cell? ⟨qw, 1, none⟩ = some (.int .i64 (y2 : Int)) := (HX8.out.cell 1).trans (by rw [← hy2i]; rfl); go_wp2_with fail
    refine (HU2.out w8).mono ?_; rintro _ w9 ⟨rfl, h9⟩; have HL9 := Jh (HL8.out.below h9); have HR9 := Jh (HR8.out.trans (h9.mono hB8)); have HA9 := Jh (HA8.out.below h9 HA8.out.lt); have HX9 := Jh (HX8.out.below h9 HX8.out.lt); have hB9 : b ≤ w9.heap.size := Nat.le_trans hB8 h9.size; clear h9; clear x1; go_wp2_with fail
    refine (Kax b b (L ++ uintT y1) ⟨(uintT y2).toArray⟩ w9 HL9.out (by show _ + (uintT y2).toArray.size ≤ _; have := (Kab y2).2; have := HLE.out; have := HI.out; simp only [List.size_toArray, Jd]; have := (Kab y1).2; omega) hB9).mono ?_; rintro _ w10 ⟨rfl, h5, h6, h7⟩; have HL10 := Jh (show Bld b b (L ++ uintT y1 ++ uintT y2) w10 from h5); have HR10 := Jh (HR9.out.trans h6); have HA10 := Jh (h7.blk HA9.out (by omega) (by decide)); have HX10 := Jh (h7.blk HX9.out (by omega) (by decide)); have hB10 : b ≤ w10.heap.size := Nat.le_trans hB9 h6.size; clear h5 h6 h7; go_wp2_with fail
    refine (Kgv ba w10).mono ?_; rintro _ w11 ⟨rfl, h11⟩; have HL11 := Jh (HL10.out.below h11); have HR11 := Jh (HR10.out.trans (h11.mono hB10)); have HA11 := Jh (HA10.out.below h11 HA10.out.lt); have HX11 := Jh (HX10.out.below h11 HX10.out.lt); have hB11 : b ≤ w11.heap.size := Nat.le_trans hB10 h11.size; clear h11; unfold fldsV; have hc12 : Below w11.heap.size w11 (w11.alloc (.cells #[.pointer (some ⟨ba, 2, none⟩), .pointer (some ⟨ba, 3, none⟩), .pointer (some ⟨ba, 4, none⟩), .pointer (some ⟨ba, 5, none⟩)] 246)) := (Below.refl _ _).alloc (Nat.le_refl _) _; have hq12 : Blk (w11.alloc (.cells #[.pointer (some ⟨ba, 2, none⟩), .pointer (some ⟨ba, 3, none⟩), .pointer (some ⟨ba, 4, none⟩), .pointer (some ⟨ba, 5, none⟩)] 246)) w11.heap.size 246 #[.pointer (some ⟨ba, 2, none⟩), .pointer (some ⟨ba, 3, none⟩), .pointer (some ⟨ba, 4, none⟩), .pointer (some ⟨ba, 5, none⟩)] := Blk.new _ _ _; go_upto_region 13 with fail
    obtain ⟨w12, hw12⟩ : ∃ w12, w11.alloc (.cells #[.pointer (some ⟨ba, 2, none⟩), .pointer (some ⟨ba, 3, none⟩), .pointer (some ⟨ba, 4, none⟩), .pointer (some ⟨ba, 5, none⟩)] 246) = w12 := ⟨_, rfl⟩; obtain ⟨qo, hqo⟩ : ∃ qo, w11.heap.size = qo := ⟨_, rfl⟩; rw [hw12] at hc12 hq12
    try rw [hw12]
    rw [hqo] at hq12
    try rw [hqo]
    have hqob : ba < qo := by have := HA11.out.lt; omega
    clear hw12 hqo; have HL12 := Jh (HL11.out.below hc12); have HR12 := Jh (HR11.out.trans (hc12.mono hB11)); have HA12 := Jh (HA11.out.below hc12 HA11.out.lt); have HX12 := Jh (HX11.out.below hc12 HX11.out.lt); have hB12 : b ≤ w12.heap.size := Nat.le_trans hB11 hc12.size; clear hc12; go_wp2_with fail
    refine (Kgv qw w12).mono ?_; rintro _ w13 ⟨rfl, h13⟩; have HQO13 := Jh (hq12.below h13 hq12.lt); have HL13 := Jh (HL12.out.below h13); have HR13 := Jh (HR12.out.trans (h13.mono hB12)); have HA13 := Jh (HA12.out.below h13 HA12.out.lt); have HX13 := Jh (HX12.out.below h13 HX12.out.lt); have hB13 : b ≤ w13.heap.size := Nat.le_trans hB12 h13.size; clear h13; unfold fldsV; obtain ⟨L2, hL2⟩ : ∃ L2, L ++ uintT y1 ++ uintT y2 = L2 := ⟨_, rfl⟩; rw [hL2] at HL13
    have hl2 : L2.length ≤ 11 + 66 * i + 22 := by
     rw [← hL2, Jd, Jd]; have := HLE.out; have := (Kab y1).2; have := (Kab y2).2; omega
    have HL2E := Jh hL2; clear hL2 hq12; have ipt0 : ∀ w : World, (Instr.index 246 (.agg #[.pointer (some ⟨qw, 2, none⟩), .pointer (some ⟨qw, 3, none⟩), .pointer (some ⟨qw, 4, none⟩), .pointer (some ⟨qw, 5, none⟩)]) (.int .i64 0)).run Tryz.prog w = .ok (.pointer (some ⟨qw, 2, none⟩)) w := fun w => by kernel_rfl
    have ipt1 : ∀ w : World, (Instr.index 246 (.agg #[.pointer (some ⟨qw, 2, none⟩), .pointer (some ⟨qw, 3, none⟩), .pointer (some ⟨qw, 4, none⟩), .pointer (some ⟨qw, 5, none⟩)]) (.int .i64 1)).run Tryz.prog w = .ok (.pointer (some ⟨qw, 3, none⟩)) w := fun w => by kernel_rfl
    have ipt2 : ∀ w : World, (Instr.index 246 (.agg #[.pointer (some ⟨qw, 2, none⟩), .pointer (some ⟨qw, 3, none⟩), .pointer (some ⟨qw, 4, none⟩), .pointer (some ⟨qw, 5, none⟩)]) (.int .i64 2)).run Tryz.prog w = .ok (.pointer (some ⟨qw, 4, none⟩)) w := fun w => by kernel_rfl
    have ipt3 : ∀ w : World, (Instr.index 246 (.agg #[.pointer (some ⟨qw, 2, none⟩), .pointer (some ⟨qw, 3, none⟩), .pointer (some ⟨qw, 4, none⟩), .pointer (some ⟨qw, 5, none⟩)]) (.int .i64 3)).run Tryz.prog w = .ok (.pointer (some ⟨qw, 5, none⟩)) w := fun w => by kernel_rfl
    go_upto_block 2 with fail
    go_cut [] (fun wx => Bld b b (L2 ++ fldsT a x 4) wx ∧ Below b w wx ∧ Blk wx ba 135 #[.int .i64 a.start, .int .i64 a.count, .int .u64 (a.sum : Int), .int .u64 (a.min : Int), .int .u64 (a.max : Int), .int .u64 (a.last : Int)] ∧ Blk wx qw 135 #[.int .i64 x.start, .int .i64 x.count, .int .u64 (x.sum : Int), .int .u64 (x.min : Int), .int .u64 (x.max : Int), .int .u64 (x.last : Int)])
    case first =>
     go_wp2_with fail
     go_loopg [47] 4 (fun g s47 wr2 => ∃ k : Nat, k + g = 4 ∧ s47 = .int .i64 (k : Int) ∧ k ≤ 4 ∧ Bld b b (L2 ++ fldsT a x k) wr2 ∧ (L2 ++ fldsT a x k).length ≤ 11 + 66 * i + 22 + 11 * k ∧ Below b w wr2 ∧ Blk wr2 ba 135 #[.int .i64 a.start, .int .i64 a.count, .int .u64 (a.sum : Int), .int .u64 (a.min : Int), .int .u64 (a.max : Int), .int .u64 (a.last : Int)] ∧ Blk wr2 qw 135 #[.int .i64 x.start, .int .i64 x.count, .int .u64 (x.sum : Int), .int .u64 (x.min : Int), .int .u64 (x.max : Int), .int .u64 (x.last : Int)] ∧ Blk wr2 qo 246 #[.pointer (some ⟨ba, 2, none⟩), .pointer (some ⟨ba, 3, none⟩), .pointer (some ⟨ba, 4, none⟩), .pointer (some ⟨ba, 5, none⟩)])
     case atStart => exact ⟨0, rfl, rfl, by omega, by simpa [fldsT] using HL13.out, by simp [fldsT]; omega, HR13.out, HA13.out, HX13.out, HQO13.out⟩
     case round =>
      obtain ⟨k, hk, rfl, hk4, hl2r, hle2, hr2, ha2, hx2, hqo2⟩ := hrel; have HL2 := Jh hl2r; have HLE2 := Jh hle2; have HR2 := Jh hr2; have HA2 := Jh ha2; have HX2 := Jh hx2; have HQO2 := Jh hqo2; have hIn := HI.out; have hBr2 : b ≤ wr.heap.size := Nat.le_trans (by rw [HB.out]; exact Nat.le_refl _) hr2.size; clear hl2r hle2 hr2 ha2 hx2 hqo2; rcases (by omega : k = 0 ∨ k = 1 ∨ k = 2 ∨ k = 3 ∨ k = 4) with rfl | rfl | rfl | rfl | rfl
      ·obtain rfl : gk = 4 := by omega
       have o0 : wr.cell? ⟨qo, 0, none⟩ = some (.pointer (some ⟨ba, 2, none⟩)) := HQO2.out.cell 0; have a0 : wr.cell? ⟨ba, 2, none⟩ = some (.int .u64 (a.sum : Int)) := HA2.out.cell 2; have x0 : wr.cell? ⟨qw, 2, none⟩ = some (.int .u64 (x.sum : Int)) := HX2.out.cell 2; have hxo : bits .xor .u64 (x.sum : Int) (a.sum : Int) = ((x.sum ^^^ a.sum : Nat) : Int) := bits_xor_u64_nat _ _ (by have := HBX.out.1; omega) (by have := HBA2.out.1; omega); have hxl : x.sum ^^^ a.sum < 2 ^ 64 := Nat.xor_lt_two_pow HBX.out.1 HBA2.out.1; obtain ⟨y, hy⟩ : ∃ y, x.sum ^^^ a.sum = y := ⟨_, rfl⟩; rw [hy] at hxo hxl; have HY := Jh hy; have HU := Jh (fun w => Kau y hxl w); have lt1 := HA2.out.lt; have lt2 := HX2.out.lt; have lt3 := HQO2.out.lt; clear hy; go_upto_region 16 with fail
       refine Kag 10 (by kernel_rfl) (by kernel_rfl) ?_; simp only [List.take_succ_cons, List.take_zero, List.drop_succ_cons, List.drop_zero]
       repeat (go_big_quiet_step ((go_at_call 42; exact Kal _ (HU.out _))))
       refine wpQuiet_nil ?_; rintro w4 ⟨⟨_, hb4⟩, rfl⟩; have HL4 := Jh (HL2.out.below hb4); have HR4 := Jh (HR2.out.trans (hb4.mono hBr2)); have HA4 := Jh (HA2.out.below hb4 HA2.out.lt); have HX4 := Jh (HX2.out.below hb4 HX2.out.lt); have HQO4 := Jh (HQO2.out.below hb4 HQO2.out.lt); have hB4 : b ≤ w4.heap.size := Nat.le_trans hBr2 hb4.size; clear hb4 o0 a0 x0 lt1 lt2 lt3; go_wp2_with fail
       refine (Kax b b _ ⟨(uintT y).toArray⟩ w4 HL4.out (by show _ + (uintT y).toArray.size ≤ _; have := (Kab y).2; have := HLE2.out; simp only [List.size_toArray]; omega) hB4).mono ?_; rintro _ w5 ⟨rfl, h5, h6, h7⟩; have HL5 := Jh h5; have HR5 := Jh (HR4.out.trans h6); have HA5 := Jh (h7.blk HA4.out (by omega) (by decide)); have HX5 := Jh (h7.blk HX4.out (by omega) (by decide)); have HQO5 := Jh (h7.blk HQO4.out (by omega) (by decide)); clear h5 h6 h7; go_wp2_with fail
       go_roundg 3
       case measure => omega
       case rel =>
        refine ⟨1, rfl, rfl, by omega, ?_, ?_, HR5.out, HA5.out, HX5.out, HQO5.out⟩
        ·rw [Knk, HY.out, ← List.append_assoc]; exact HL5.out
        ·rw [Knk, HY.out, Jd, Jd]; have := HLE2.out; rw [Jd] at this; have := (Kab y).2; omega
      ·obtain rfl : gk = 3 := by omega
       have o0 : wr.cell? ⟨qo, 1, none⟩ = some (.pointer (some ⟨ba, 3, none⟩)) := HQO2.out.cell 1; have a0 : wr.cell? ⟨ba, 3, none⟩ = some (.int .u64 (a.min : Int)) := HA2.out.cell 3; have x0 : wr.cell? ⟨qw, 3, none⟩ = some (.int .u64 (x.min : Int)) := HX2.out.cell 3; have hxo : bits .xor .u64 (x.min : Int) (a.min : Int) = ((x.min ^^^ a.min : Nat) : Int) := bits_xor_u64_nat _ _ (by have := HBX.out.2.1; omega) (by have := HBA2.out.2.1; omega); have hxl : x.min ^^^ a.min < 2 ^ 64 := Nat.xor_lt_two_pow HBX.out.2.1 HBA2.out.2.1; obtain ⟨y, hy⟩ : ∃ y, x.min ^^^ a.min = y := ⟨_, rfl⟩; rw [hy] at hxo hxl; have HY := Jh hy; have HU := Jh (fun w => Kau y hxl w); have lt1 := HA2.out.lt; have lt2 := HX2.out.lt; have lt3 := HQO2.out.lt; clear hy; go_upto_region 16 with fail
       refine Kag 10 (by kernel_rfl) (by kernel_rfl) ?_; simp only [List.take_succ_cons, List.take_zero, List.drop_succ_cons, List.drop_zero]
       repeat (go_big_quiet_step ((go_at_call 42; exact Kal _ (HU.out _))))
       refine wpQuiet_nil ?_; rintro w4 ⟨⟨_, hb4⟩, rfl⟩; have HL4 := Jh (HL2.out.below hb4); have HR4 := Jh (HR2.out.trans (hb4.mono hBr2)); have HA4 := Jh (HA2.out.below hb4 HA2.out.lt); have HX4 := Jh (HX2.out.below hb4 HX2.out.lt); have HQO4 := Jh (HQO2.out.below hb4 HQO2.out.lt); have hB4 : b ≤ w4.heap.size := Nat.le_trans hBr2 hb4.size; clear hb4 o0 a0 x0 lt1 lt2 lt3; go_wp2_with fail
       refine (Kax b b _ ⟨(uintT y).toArray⟩ w4 HL4.out (by show _ + (uintT y).toArray.size ≤ _; have := (Kab y).2; have := HLE2.out; simp only [List.size_toArray]; omega) hB4).mono ?_; rintro _ w5 ⟨rfl, h5, h6, h7⟩; have HL5 := Jh h5; have HR5 := Jh (HR4.out.trans h6); have HA5 := Jh (h7.blk HA4.out (by omega) (by decide)); have HX5 := Jh (h7.blk HX4.out (by omega) (by decide)); have HQO5 := Jh (h7.blk HQO4.out (by omega) (by decide)); clear h5 h6 h7; go_wp2_with fail
       go_roundg 2
       case measure => omega
       case rel =>
        refine ⟨2, rfl, rfl, by omega, ?_, ?_, HR5.out, HA5.out, HX5.out, HQO5.out⟩
        ·rw [Knu, HY.out, ← List.append_assoc]; exact HL5.out
        ·rw [Knu, HY.out, Jd, Jd]; have := HLE2.out; rw [Jd] at this; have := (Kab y).2; omega
      ·obtain rfl : gk = 2 := by omega
       have o0 : wr.cell? ⟨qo, 2, none⟩ = some (.pointer (some ⟨ba, 4, none⟩)) := HQO2.out.cell 2; have a0 : wr.cell? ⟨ba, 4, none⟩ = some (.int .u64 (a.max : Int)) := HA2.out.cell 4; have x0 : wr.cell? ⟨qw, 4, none⟩ = some (.int .u64 (x.max : Int)) := HX2.out.cell 4; have hxo : bits .xor .u64 (x.max : Int) (a.max : Int) = ((x.max ^^^ a.max : Nat) : Int) := bits_xor_u64_nat _ _ (by have := HBX.out.2.2.1; omega) (by have := HBA2.out.2.2.1; omega); have hxl : x.max ^^^ a.max < 2 ^ 64 := Nat.xor_lt_two_pow HBX.out.2.2.1 HBA2.out.2.2.1; obtain ⟨y, hy⟩ : ∃ y, x.max ^^^ a.max = y := ⟨_, rfl⟩; rw [hy] at hxo hxl; have HY := Jh hy; have HU := Jh (fun w => Kau y hxl w); have lt1 := HA2.out.lt; have lt2 := HX2.out.lt; have lt3 := HQO2.out.lt; clear hy; go_upto_region 16 with fail
       refine Kag 10 (by kernel_rfl) (by kernel_rfl) ?_; simp only [List.take_succ_cons, List.take_zero, List.drop_succ_cons, List.drop_zero]
       repeat (go_big_quiet_step ((go_at_call 42; exact Kal _ (HU.out _))))
       refine wpQuiet_nil ?_; rintro w4 ⟨⟨_, hb4⟩, rfl⟩; have HL4 := Jh (HL2.out.below hb4); have HR4 := Jh (HR2.out.trans (hb4.mono hBr2)); have HA4 := Jh (HA2.out.below hb4 HA2.out.lt); have HX4 := Jh (HX2.out.below hb4 HX2.out.lt); have HQO4 := Jh (HQO2.out.below hb4 HQO2.out.lt); have hB4 : b ≤ w4.heap.size := Nat.le_trans hBr2 hb4.size; clear hb4 o0 a0 x0 lt1 lt2 lt3; go_wp2_with fail
       refine (Kax b b _ ⟨(uintT y).toArray⟩ w4 HL4.out (by show _ + (uintT y).toArray.size ≤ _; have := (Kab y).2; have := HLE2.out; simp only [List.size_toArray]; omega) hB4).mono ?_; rintro _ w5 ⟨rfl, h5, h6, h7⟩; have HL5 := Jh h5; have HR5 := Jh (HR4.out.trans h6); have HA5 := Jh (h7.blk HA4.out (by omega) (by decide)); have HX5 := Jh (h7.blk HX4.out (by omega) (by decide)); have HQO5 := Jh (h7.blk HQO4.out (by omega) (by decide)); clear h5 h6 h7; go_wp2_with fail
       go_roundg 1
       case measure => omega
       case rel =>
        refine ⟨3, rfl, rfl, by omega, ?_, ?_, HR5.out, HA5.out, HX5.out, HQO5.out⟩
        ·rw [Kms, HY.out, ← List.append_assoc]; exact HL5.out
        ·rw [Kms, HY.out, Jd, Jd]; have := HLE2.out; rw [Jd] at this; have := (Kab y).2; omega
      ·obtain rfl : gk = 1 := by omega
       have o0 : wr.cell? ⟨qo, 3, none⟩ = some (.pointer (some ⟨ba, 5, none⟩)) := HQO2.out.cell 3; have a0 : wr.cell? ⟨ba, 5, none⟩ = some (.int .u64 (a.last : Int)) := HA2.out.cell 5; have x0 : wr.cell? ⟨qw, 5, none⟩ = some (.int .u64 (x.last : Int)) := HX2.out.cell 5; have hxo : bits .xor .u64 (x.last : Int) (a.last : Int) = ((x.last ^^^ a.last : Nat) : Int) := bits_xor_u64_nat _ _ (by have := HBX.out.2.2.2; omega) (by have := HBA2.out.2.2.2; omega); have hxl : x.last ^^^ a.last < 2 ^ 64 := Nat.xor_lt_two_pow HBX.out.2.2.2 HBA2.out.2.2.2; obtain ⟨y, hy⟩ : ∃ y, x.last ^^^ a.last = y := ⟨_, rfl⟩; rw [hy] at hxo hxl; have HY := Jh hy; have HU := Jh (fun w => Kau y hxl w); have lt1 := HA2.out.lt; have lt2 := HX2.out.lt; have lt3 := HQO2.out.lt; clear hy; go_upto_region 16 with fail
       refine Kag 10 (by kernel_rfl) (by kernel_rfl) ?_; simp only [List.take_succ_cons, List.take_zero, List.drop_succ_cons, List.drop_zero]
       repeat (go_big_quiet_step ((go_at_call 42; exact Kal _ (HU.out _))))
       refine wpQuiet_nil ?_; rintro w4 ⟨⟨_, hb4⟩, rfl⟩; have HL4 := Jh (HL2.out.below hb4); have HR4 := Jh (HR2.out.trans (hb4.mono hBr2)); have HA4 := Jh (HA2.out.below hb4 HA2.out.lt); have HX4 := Jh (HX2.out.below hb4 HX2.out.lt); have HQO4 := Jh (HQO2.out.below hb4 HQO2.out.lt); have hB4 : b ≤ w4.heap.size := Nat.le_trans hBr2 hb4.size; clear hb4 o0 a0 x0 lt1 lt2 lt3; go_wp2_with fail
       refine (Kax b b _ ⟨(uintT y).toArray⟩ w4 HL4.out (by show _ + (uintT y).toArray.size ≤ _; have := (Kab y).2; have := HLE2.out; simp only [List.size_toArray]; omega) hB4).mono ?_; rintro _ w5 ⟨rfl, h5, h6, h7⟩; have HL5 := Jh h5; have HR5 := Jh (HR4.out.trans h6); have HA5 := Jh (h7.blk HA4.out (by omega) (by decide)); have HX5 := Jh (h7.blk HX4.out (by omega) (by decide)); have HQO5 := Jh (h7.blk HQO4.out (by omega) (by decide)); clear h5 h6 h7; go_wp2_with fail
       go_roundg 0
       case measure => omega
       case rel =>
        refine ⟨4, rfl, rfl, by omega, ?_, ?_, HR5.out, HA5.out, HX5.out, HQO5.out⟩
        ·rw [Kok, HY.out, ← List.append_assoc]; exact HL5.out
        ·rw [Kok, HY.out, Jd, Jd]; have := HLE2.out; rw [Jd] at this; have := (Kab y).2; omega
      ·obtain rfl : gk = 0 := by omega
       go_wp2_with fail
       go_meet
       exact ⟨HL2.out, HR2.out, HA2.out, HX2.out⟩
    case rest =>
     obtain ⟨hl4, hr4, ha4, hx4⟩ := hcut; have HL9 := Jh hl4; have HR9 := Jh hr4; have HA9 := Jh ha4; have HX9 := Jh hx4; clear hl4 hr4 ha4 hx4; have x0 : wc.cell? ⟨qw, 0, none⟩ = some (.int .i64 x.start) := HX9.out.cell 0; have x1 : wc.cell? ⟨qw, 1, none⟩ = some (.int .i64 x.count) := HX9.out.cell 1; have x2 : wc.cell? ⟨qw, 2, none⟩ = some (.int .u64 (x.sum : Int)) := HX9.out.cell 2; have x3 : wc.cell? ⟨qw, 3, none⟩ = some (.int .u64 (x.min : Int)) := HX9.out.cell 3; have x4 : wc.cell? ⟨qw, 4, none⟩ = some (.int .u64 (x.max : Int)) := HX9.out.cell 4; have x5 : wc.cell? ⟨qw, 5, none⟩ = some (.int .u64 (x.last : Int)) := HX9.out.cell 5; have a0 : wc.cell? ⟨ba, 0, none⟩ = some (.int .i64 a.start) := HA9.out.cell 0; have a1 : wc.cell? ⟨ba, 1, none⟩ = some (.int .i64 a.count) := HA9.out.cell 1; have a2 : wc.cell? ⟨ba, 2, none⟩ = some (.int .u64 (a.sum : Int)) := HA9.out.cell 2; have a3 : wc.cell? ⟨ba, 3, none⟩ = some (.int .u64 (a.min : Int)) := HA9.out.cell 3; have a4 : wc.cell? ⟨ba, 4, none⟩ = some (.int .u64 (a.max : Int)) := HA9.out.cell 4; have a5 : wc.cell? ⟨ba, 5, none⟩ = some (.int .u64 (a.last : Int)) := HA9.out.cell 5; have z0 := HA9.out.frozen 0; have z1 := HA9.out.frozen 1; have z2 := HA9.out.frozen 2; have z3 := HA9.out.frozen 3; have z4 := HA9.out.frozen 4; have z5 := HA9.out.frozen 5; go_wp2_with fail
     have t0 := HA9.out; have g0 := HL9.out; have r0 := HR9.out; have g1 := g0.set (i := 0) t0 (by decide) (by omega) (.int .i64 x.start); have r1 := r0.setCell (p := ⟨ba, 0, none⟩) (by simp; omega) (.int .i64 x.start); have t1 := t0.set_ 0 (.int .i64 x.start); have g2 := g1.set (i := 1) t1 (by decide) (by omega) (.int .i64 (y2 : Int)); have r2 := r1.setCell (p := ⟨ba, 1, none⟩) (by simp; omega) (.int .i64 (y2 : Int)); have t2 := t1.set_ 1 (.int .i64 (y2 : Int)); have g3 := g2.set (i := 2) t2 (by decide) (by omega) (.int .u64 (x.sum : Int)); have r3 := r2.setCell (p := ⟨ba, 2, none⟩) (by simp; omega) (.int .u64 (x.sum : Int)); have t3 := t2.set_ 2 (.int .u64 (x.sum : Int)); have g4 := g3.set (i := 3) t3 (by decide) (by omega) (.int .u64 (x.min : Int)); have r4 := r3.setCell (p := ⟨ba, 3, none⟩) (by simp; omega) (.int .u64 (x.min : Int)); have t4 := t3.set_ 3 (.int .u64 (x.min : Int)); have g5 := g4.set (i := 4) t4 (by decide) (by omega) (.int .u64 (x.max : Int)); have r5 := r4.setCell (p := ⟨ba, 4, none⟩) (by simp; omega) (.int .u64 (x.max : Int)); have t5 := t4.set_ 4 (.int .u64 (x.max : Int)); have g6 := g5.set (i := 5) t5 (by decide) (by omega) (.int .u64 (x.last : Int)); have r6 := r5.setCell (p := ⟨ba, 5, none⟩) (by simp; omega) (.int .u64 (x.last : Int)); have t6 := t5.set_ 5 (.int .u64 (x.last : Int)); have G := Jh g6; have R := Jh r6; have T := Jh t6; clear g0 g1 g2 g3 g4 g5 g6 r0 r1 r2 r3 r4 r5 r6 t0 t1 t2 t3 t4 t5 t6; go_roundg (n - (i + 1))
     case measure => have := HI.out; omega
     case rel =>
      have hT : L2 ++ fldsT a x 4 = uintT n ++ wndsT wnd0 (l.take (i + 1)) := by
       rw [HTK.out, Kon, HAA.out, Kzn, HY1.out, HY2.out, ← HL2E.out, ← HLL.out]; simp
      have hlw : lastW wnd0 (l.take (i + 1)) = x := by rw [HTK.out, Kmm]
      refine ⟨i + 1, by have := HI.out; omega, by go_num, ?_, ?_, R.out, ?_, ?_, ?_⟩
      ·rw [hlw, show decide (i + 1 = 0) = false by simp]; exact HEN.out
      ·rw [← hT]; exact G.out
      ·rw [hlw, hy2i]; exact T.out
      ·rw [hlw]; exact ⟨k1, k2, HBX.out⟩
      ·rw [← hT, Jd]; have h1 := hl2
       have h2 : (fldsT a x 4).length ≤ 44 := by
        simp only [fldsT, List.take, List.flatten_cons, List.flatten_nil, Jd, List.length_nil]; have q1 := (Kab (x.sum ^^^ a.sum)).2; have q2 := (Kab (x.min ^^^ a.min)).2; have q3 := (Kab (x.max ^^^ a.max)).2; have q4 := (Kab (x.last ^^^ a.last)).2; omega
       omega
   ·rw [if_pos hs0] at hei; have e0 : ((se : Int) != 0) = true := by simp; omega
    have HEN := Jh hei; have HS0 := Jh hs0; clear hei; go_wp2_with fail
    go_ret2
    unfold aggO; rw [if_neg (by rw [HEE.out, ← HEN.out]; exact HS0.out), HEE.out, ← HEN.out]; exact ⟨rfl, by rw [HB.out]; exact HR6.out⟩
  ·have hi3 : i = n := by have := HI.out; omega
   subst hi3; have htk : l.take i = l := List.take_of_length_le (by have := HLEN.out; omega); have hdr : l.drop i = [] := List.drop_eq_nil_of_le (by have := HLEN.out; omega)
   have hE0 : E = 0 := by
    have := HEI.out; rw [hdr] at this; exact this.symm
   have ho : aggO l = (uintT i ++ wndsT wnd0 l, 0) := by
    unfold aggO; rw [if_pos (by rw [HEE.out, hE0]), aggT, HLEN.out]
   rw [htk] at HL; have HO := Jh ho; have HST2 := Jh (Kdp b b _ wr HL.out hBr); obtain ⟨S, hS⟩ : ∃ S : ByteArray, (⟨(uintT i ++ wndsT wnd0 l).toArray⟩ : ByteArray) = S := ⟨_, rfl⟩; rw [hS] at HST2; have HS := Jh hS; clear ho hS htk hdr hE0; go_wp2_with fail
   refine HST2.out.mono ?_; rintro _ w3 ⟨rfl, h6⟩; go_wp2_with fail
   go_ret2
   rw [HO.out, ← HS.out]; exact ⟨rfl, by rw [HB.out]; exact HR.out.trans h6⟩
end
section
open Go.RowKit
def Kdh (S : List (List Lb)) (l : List Lb) (k : Nat) : Lb → List Nat := fun y => if y ∈ l.take k then Kaj S y ++ [S.length] else Kaj S y
theorem Klu (S : List (List Lb)) (l : List Lb) : Kdh S l 0 = Kaj S := by funext y; simp [Kdh]
theorem Kgl (S : List (List Lb)) (l : List Lb) (y : Lb) : Kaj (S ++ [l]) y = if y ∈ l then Kaj S y ++ [S.length] else Kaj S y := by
 unfold Kaj; rw [List.length_append, List.length_singleton, List.range_succ, List.filter_append]
 have h1 : (List.range S.length).filter (fun i => decide (y ∈ (S ++ [l]).getD i [])) = (List.range S.length).filter (fun i => decide (y ∈ S.getD i [])) := by
  apply List.filter_congr; intro i hi; rw [List.getD_eq_getElem?_getD, List.getD_eq_getElem?_getD, List.getElem?_append_left (List.mem_range.1 hi)]
 have h2 : (S ++ [l]).getD S.length [] = l := by simp [List.getD_eq_getElem?_getD]
 rw [h1]
 by_cases hy : y ∈ l
 ·rw [if_pos hy, List.filter_cons, List.filter_nil, h2, if_pos (decide_eq_true hy)]
 ·rw [if_neg hy, List.filter_cons, List.filter_nil, h2, if_neg (by simpa using hy), List.append_nil]
theorem Knp (S : List (List Lb)) (l : List Lb) : Kdh S l l.length = Kaj (S ++ [l]) := by
 funext y; rw [Kgl, Kdh, List.take_length]
theorem Kvw : Kaj [] = fun _ => [] := rfl
theorem Kfo {l : List Lb} (h : Kcw l = true) : l.Nodup ∧ l ≠ [] ∧ l.length ≤ 8 ∧ (∀ x ∈ l, x.n.length ≤ 32 ∧ x.v.length ≤ 64) ∧ Kci l = 0 := by
 have he := Kig h; unfold Kcw at h; rw [Bool.and_eq_true, decide_eq_true_eq, decide_eq_true_eq] at h; obtain ⟨h1, h2⟩ := h; have hm := h1; unfold Kbj at h1
 split at h1
 ·cases h1
 ·split at h1
  ·cases h1
  ·rename_i h3 h4
   refine ⟨?_, fun e => h3 (by rw [e]; rfl), by omega, fun x hx => ?_, he⟩
   ·unfold names at h2; rw [List.pairwise_map] at h2; exact h2.imp fun hab e => by subst e; exact List.lt_irrefl _ hab
   ·obtain ⟨a, b⟩ := Kii h1 x hx; unfold fitN at a; unfold fitV at b; simp only [Bool.and_eq_true, decide_eq_true_eq] at a b; omega
theorem Qdn {c : Cont} {s : Ser} (h : Kdk c s = true) (h0 : 0 ≤ c.frm) (h1 : c.to_ ≤ 1125899906842625) (hv : ∀ x ∈ s.samples, x.v < 2 ^ 64) :
  (∀ p ∈ Kbq s.samples.length s.samples, (Kdb p).1 = Kcd p) ∧ (aggO s.windows).1 = aggT s.windows := by
 unfold Kdk at h
 split at h
 ·rename_i hr
  rw [Bool.and_eq_true, decide_eq_true_eq, Kos] at h; obtain ⟨hw, _, hi, hri⟩ := h; have hw0 : s.windows = [] := List.eq_nil_of_length_eq_zero hw; refine ⟨fun p hp => ?_, by rw [hw0]; rfl⟩; have hok := Kuk (fun x hx => (⟨by have := hi x hx; omega, by have := hi x hx; omega, hv x hx⟩ : SmpOk x)) hri hp; have hfit : fitC none 0 p = true := (Kmd p none 0).2 ⟨fun x hx => ⟨(hok.1 x hx).1, (hok.1 x hx).2.1⟩, hok.2.1, fun y x hy => (by cases hy), .inr (by have := hok.2.2; omega)⟩; unfold Kdb; rw [if_pos ((Kke p).2 hfit)]
 ·rename_i hr
  rw [Bool.and_eq_true, Bool.and_eq_true, decide_eq_true_eq] at h; have hs0 : s.samples = [] := List.eq_nil_of_length_eq_zero h.1.2; refine ⟨fun p hp => by rw [hs0] at hp; simp [Kbq] at hp, ?_⟩; unfold aggO; rw [if_pos ((Kkk _ _ _).2 h.1.1)]
def Kdt {σ : Type} (part : σ → Nat → Option σ) (I : List UInt8) : Nat → σ → Nat → Option (σ × Nat)
 | 0, s, i => some (s, i)
 | k + 1, s, i => match ruAt I i with
  | none => none
  | some (n, i') => match part s n with
   | none => none
   | some s' => Kdt part I k s' i'
def serG {σ : Type} (each : σ → List Lb → σ) (part : σ → Nat → Option σ) (t : List Txt) (I : List UInt8) : Nat → σ → Nat → Option (σ × Nat)
 | 0, s, i => some (s, i)
 | g + 1, s, i => if (unpR t I i).2.2 ≠ 0 then none else match ruAt I (unpR t I i).2.1 with
  | none => none
  | some (k, i2) => match Kdt part I k (each s (unpR t I i).1) i2 with
   | none => none
   | some (s', i3) => serG each part t I g s' i3
def Kcv {σ : Type} (each : σ → List Lb → σ) (part : σ → Nat → Option σ) (I : List UInt8) (s : σ) : Option (σ × Nat) := match tabR I 0 with
 | none => none
 | some (t, i0) => match ruAt I i0 with
  | none => none
  | some (n, i1) => serG each part t I n s i1
def eachP (s : List Ser × Nat) (l : List Lb) : List Ser × Nat := (s.1 ++ [⟨l, [], []⟩], s.2)
def partP (res : Nat) (C : List UInt8) (s : List Ser × Nat) (n : Nat) : Option (List Ser × Nat) :=
 if s.2 + n ≤ C.length then (match decP res (s.1.getLast?.getD ⟨[], [], []⟩) ((C.drop s.2).take n) with | none => none | some a => some (s.1.dropLast ++ [a], s.2 + n)) else none
theorem Kjm (res : Nat) (I C : List UInt8) : ∀ (k : Nat) (out : List Ser) (a : Ser) (i j : Nat),
  Kdt (partP res C) I k (out ++ [a], j) i = (Kgk res I C k a i j).map fun x => ((out ++ [x.1], x.2.2), x.2.1)
 | 0, out, a, i, j => rfl
 | k + 1, out, a, i, j => by
  rw [Kdt, Kgk]
  cases hr : ruAt I i with
  | none => rfl
  | some x =>
   obtain ⟨n, i'⟩ := x; dsimp only; unfold partP; dsimp only; rw [List.getLast?_append, List.dropLast_concat]; simp only [List.getLast?_singleton, Option.some_or, Option.getD_some]
   by_cases hj : j + n ≤ C.length
   ·rw [if_pos hj, if_pos hj]
    cases hd : decP res a ((C.drop j).take n) with
    | none => rfl
    | some a' => exact Kjm res I C k out a' i' (j + n)
   ·rw [if_neg hj, if_neg hj]; rfl
theorem Kmv (res : Nat) (t : List Txt) (I C : List UInt8) : ∀ (g : Nat) (out : List Ser) (i j : Nat),
  serG eachP (partP res C) t I g (out, j) i = (sersR t res I C g out i j).map fun x => ((x.1, x.2.2), x.2.1)
 | 0, out, i, j => rfl
 | g + 1, out, i, j => by
  rw [serG, sersR]
  by_cases he : (unpR t I i).2.2 ≠ 0
  ·rw [if_pos he, if_pos he]; rfl
  ·rw [if_neg he, if_neg he]
   cases hr : ruAt I (unpR t I i).2.1 with
   | none => rfl
   | some x =>
    obtain ⟨k, i2⟩ := x; dsimp only; unfold eachP; dsimp only; rw [Kjm]
    cases hp : Kgk res I C k ⟨(unpR t I i).1, [], []⟩ i2 j with
    | none => rfl
    | some y =>
     obtain ⟨s, i3, j3⟩ := y; dsimp only [Option.map_some]; exact Kmv res t I C g (out ++ [s]) i3 j3
theorem Qej {f : Fil} {M C I : List UInt8} (h1 : Kat f.mt = .ok M) (h2 : Kat f.ck = .ok C) (h3 : Kat f.ix = .ok I) : Kfr f = match ruAt M 0 with
  | none => none
  | some (r, m1) => match riAt M m1 with
   | none => none
   | some (a, m2) => match riAt M m2 with
    | none => none
    | some (b, _) => (Kcv eachP (partP (min r 9) C) I ([], 0)).map fun x => ⟨(min r 9 : Nat), a, b, x.1.1⟩ := by
 unfold Kfr; rw [h1, h2, h3]; dsimp only
 cases ruAt M 0 with
 | none => rfl
 | some x =>
  obtain ⟨r, m1⟩ := x; dsimp only
  cases riAt M m1 with
  | none => rfl
  | some x =>
   obtain ⟨a, m2⟩ := x; dsimp only
   cases riAt M m2 with
   | none => rfl
   | some x =>
    obtain ⟨b, m3⟩ := x; dsimp only; unfold Kcv
    cases tabR I 0 with
    | none => rfl
    | some x =>
     obtain ⟨t, i0⟩ := x; dsimp only
     cases ruAt I i0 with
     | none => rfl
     | some x =>
      obtain ⟨n, i1⟩ := x; dsimp only; rw [Kmv]
      cases sersR t (min r 9) I C n [] i1 0 with
      | none => rfl
      | some x => rfl
theorem Kjl {σ : Type} (s : σ) (I : List UInt8) : ∀ (k i : Nat), Kdt (fun s _ => some s) I k s i = (skipR I k i).map fun i => (s, i)
 | 0, i => rfl
 | k + 1, i => by
  rw [Kdt, skipR]
  cases ruAt I i with
  | none => rfl
  | some x => exact Kjl s I k x.2
theorem Kot (t : List Txt) (I : List UInt8) : ∀ (g : Nat) (S : List (List Lb)) (i : Nat), serG (fun S l => S ++ [l]) (fun S _ => some S) t I g S i = setsR t I g S i
 | 0, S, i => rfl
 | g + 1, S, i => by
  rw [serG, setsR]
  by_cases he : (unpR t I i).2.2 ≠ 0
  ·rw [if_pos he, if_pos he]
  ·rw [if_neg he, if_neg he]
   cases hr : ruAt I (unpR t I i).2.1 with
   | none => rfl
   | some x =>
    obtain ⟨k, i2⟩ := x; dsimp only; rw [Kjl]
    cases hp : skipR I k i2 with
    | none => rfl
    | some i3 => exact Kot t I g (S ++ [(unpR t I i).1]) i3
theorem Qcv (I : List UInt8) (q : Lb) : Khm I q = match Kcv (fun S l => S ++ [l]) (fun S _ => some S) I [] with
  | none => none
  | some (S, i2) => match ruAt I i2 with
   | none => none
   | some (k, i3) => match keysR I q k [] i3 with
    | none => none
    | some (out, i4) => if i4 = I.length ∧ Kbi S = I.drop i2 then some out else none := by
 unfold Khm Kcv
 cases tabR I 0 with
 | none => rfl
 | some x =>
  obtain ⟨t, i0⟩ := x; dsimp only
  cases ruAt I i0 with
  | none => rfl
  | some x =>
   obtain ⟨n, i1⟩ := x; dsimp only; rw [Kot]
   first | done | rfl | (cases setsR t I n [] i1 with | none => rfl | some x => rfl)
end
section
open Go.RowKit Go.Sort
attribute [local go_sem ↓] Go.wp_at_zero Go.wp_at_succ
attribute [local go_sem] Later.cell
theorem Kjx (v : Value) (t : List Txt) (s : ByteArray) (k : Int) (w : World) (x : Txt) (n e : Nat) (hr : symR t s.data.toList k = (x, n, e)) (h : TabAt w v t) (hm : t.length * 16 ≤ 140737488351232) (hs : s.size ≤ 140737488351232) :
  Calls Tryz.prog 186 #[v, .string s, .int .i64 k] w fun en w' => en = .returned (.tuple #[txtV x, .int .i64 n, .int .i64 e]) ∧ w = w' := by
 obtain ⟨v1, n1, e1, h1⟩ : ∃ v n e, Kan s.data.toList k = (v, n, e) := ⟨_, _, _, rfl⟩; have H1 := Lib.hid h1; have hlen := Kqn v t w h; obtain ⟨A, c, hs', hc, _, htab⟩ := Kgz v t w h; obtain ⟨m, hm'⟩ : ∃ m, t.length = m := ⟨_, rfl⟩; rw [symR, h1] at hr; dsimp only at hr; rw [hm'] at hr hlen hs' hc htab hm; have HLEN := Lib.hid hlen; clear hlen h hm'
 by_cases he : e1 = 0
 ·subst he; rw [if_neg (by simp)] at hr
  by_cases hv : m ≤ v1
  ·rw [if_pos hv] at hr; obtain ⟨rfl, rfl, rfl⟩ : [] = x ∧ 0 = n ∧ 50 = e := by simpa using hr
   have ev : decide ((m : Int) ≤ (v1 : Int)) = true := by simp; omega
   clear hr h1 htab; unfold txtV; go_enter Tryz.func186, Tryz.ntmps186
   go_wp2_with fail
   refine (Kam s k v1 n1 0 H1.out hs w).mono ?_; rintro _ w1 ⟨rfl, rfl⟩; go_wp2_with fail
   refine HLEN.out.mono ?_; rintro _ w1 ⟨rfl, rfl⟩; go_wp2_with fail
   go_ret3
   exact ⟨rfl, rfl⟩
  ·rw [if_neg hv] at hr; obtain ⟨hx, rfl, rfl⟩ : t[v1]! = x ∧ n1 = n ∧ 0 = e := by simpa using hr
   obtain ⟨p, rfl, hp⟩ := htab (by omega); obtain ⟨b, off, rfl, hbl, hcell⟩ := hs'.at_ (i := v1) (by omega); have hp0 : _ = some (Value.slice (some ⟨b, off, none⟩) m c) := hp.cell 0; rw [hx] at hcell; unfold txtV at hcell ⊢; obtain ⟨X, hX⟩ : ∃ X : ByteArray, (⟨x.toArray⟩ : ByteArray) = X := ⟨_, rfl⟩; rw [hX] at hcell ⊢; have ev : decide ((m : Int) ≤ (v1 : Int)) = false := by simp; omega
   clear hr h1 hx hX htab hp; go_enter Tryz.func186, Tryz.ntmps186
   go_wp2_with fail
   refine (Kam s k v1 n1 0 H1.out hs w).mono ?_; rintro _ w1 ⟨rfl, rfl⟩; go_wp2_with fail
   refine HLEN.out.mono ?_; rintro _ w1 ⟨rfl, rfl⟩; go_wp2_with fail
   go_ret3
   exact ⟨rfl, rfl⟩
 ·rw [if_pos he] at hr; obtain ⟨rfl, rfl, rfl⟩ : [] = x ∧ 0 = n ∧ e1 = e := by simpa using hr
  have ee : ((e1 : Int) != 0) = true := by simp; omega
  clear hr h1 htab; unfold txtV; go_enter Tryz.func186, Tryz.ntmps186
  go_wp2_with fail
  refine (Kam s k v1 n1 e1 H1.out hs w).mono ?_; rintro _ w1 ⟨rfl, rfl⟩; go_wp2_with fail
  go_ret3
  exact ⟨rfl, rfl⟩
def Ked (w : World) (R : List Lb × Nat × Nat) (en : Ending) (w' : World) : Prop :=
 ∃ A c, en = .returned (.tuple #[.slice A R.1.length c, .int .i64 (R.2.1 : Nat), .int .i64 (R.2.2 : Nat)]) ∧ Elems w' w'.heap.size 2 encLb A R.1.length R.1 ∧ R.1.length ≤ c ∧ Below w.heap.size w w' ∧ ∀ a, A = some a → w.heap.size ≤ a.block
theorem Ked.bad {w w' : World} {e : Nat} {en : Ending} (h : en = .returned (.tuple #[.slice none 0 0, .int .i64 0, .int .i64 (e : Nat)])) (hB : Below w.heap.size w w') : Ked w ([], 0, e) en w' :=
 ⟨none, 0, h, Elems.nil_, Nat.le_refl _, hB, fun a e => by cases e⟩
theorem Qcg {t : List Txt} {s : List UInt8} {g : Nat} {out : List Lb} {p : Nat} {R : List Lb × Nat × Nat} (h : unpL t s (g + 1) out p = R) {x y : Txt} {n1 e1 n2 e2 : Nat} (h1 : symR t s p = (x, n1, e1)) (h2 : symR t s n1 = (y, n2, e2)) :
  (if e1 ≠ 0 then ([], 0, e1) else if e2 ≠ 0 then ([], 0, e2) else if fitN x = false then ([], 0, 40) else if fitV y = false then ([], 0, 41) else if Kff out x = true then ([], 0, 42) else unpL t s g (out ++ [⟨x, y⟩]) n2) = R := by
 rw [unpL, h1] at h; dsimp only at h; rw [h2] at h; exact h
end
end Go.Proofs.YtdoiekknhnbepaaGreatDoor
