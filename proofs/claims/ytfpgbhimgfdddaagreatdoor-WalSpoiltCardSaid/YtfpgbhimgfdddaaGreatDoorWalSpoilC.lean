/- The walk of the law WalSpoilt (layer 16): the state of its loop. -/
import Derived.Test.YtfpgbhimgfdddaaGreatDoorWalSpoilB
import Derived.Test.YtfpgbhimgfdddaaGreatDoorWalAgain
import Derived.Test.YtfpgbhimgfdddaaGreatDoorWax05
set_option linter.unusedVariables false
set_option linter.unusedSimpArgs false
namespace Go.Proofs.YtfpgbhimgfdddaaGreatDoor
open Go.RowKit Go.Shelf Go.Sort
/-- The state of WalSpoilt's loop. -/
structure SpoI (B0 : Nat) (a : Nat → Addr) (p : Nat) (R0 : Nat → Nat) (w0 : World) (m : WM) (k : List (Txt × Nat)) (d : Ds) (M : Nat) (Rr : Nat → Nat) (ao : Option Addr) (cap g : Nat) (wr : World) : Prop where
  wl : WL B0 a 67108864 M p g Rr wW 1 m d wr
  kk : k = m.kept
  kr : KRow wr w0.heap.size 2 ao k.length cap (k.flatMap encEnt)
  kz : ∀ x, ao = some x → 0 < cap → Rr x.block = 0 ∧ x.block ≠ g
  mn : m.n ≤ k.length + 1
  us : usedD d ≤ k.length * 65545
  mm : M ≤ 10 + k.length * 65560
  kl : k.length ≤ 50
  one : (m = ⟨[], 1, []⟩ ∧ k = []) ∨ OneW m
  fit : ∀ e ∈ k, 0 < e.1.length ∧ e.1.length ≤ 65536
  out : Out R0 Rr w0 wr
  gb : w0.heap.size ≤ g
section
variable {B0 : Nat} {a : Nat → Addr} {p : Nat} {R0 : Nat → Nat} {w0 : World} {m : WM} {k : List (Txt × Nat)} {d : Ds} {M : Nat} {Rr R2 : Nat → Nat} {ao : Option Addr} {cap g : Nat} {wr w' : World}
theorem SpoI.below (h : SpoI B0 a p R0 w0 m k d M Rr ao cap g wr) (hC : SCon B0 a) (hb : Below wr.heap.size wr w') : SpoI B0 a p R0 w0 m k d M Rr ao cap g w' :=
  ⟨h.wl.below hC hb, h.kk, h.kr.keep hb.size fun x hx h0 => hb.block _ (h.kr.lt x hx h0).2, h.kz, h.mn, h.us, h.mm, h.kl, h.one, h.fit, h.out.trans (Out.of_below hb), h.gb⟩
theorem SpoI.keep (h : SpoI B0 a p R0 w0 m k d M Rr ao cap g wr) (ho : OutG g Rr R2 wr w') : KRow w' w0.heap.size 2 ao k.length cap (k.flatMap encEnt) ∧ (∀ x, ao = some x → 0 < cap → R2 x.block = 0 ∧ x.block ≠ g) ∧ Out R0 R2 w0 w' :=
  ⟨h.kr.keep ho.size fun x hx h0 => ho.block _ (h.kr.lt x hx h0).2 (h.kz x hx h0).1 (h.kz x hx h0).2, fun x hx h0 => ⟨ho.old _ (h.kr.lt x hx h0).2 (h.kz x hx h0).1, (h.kz x hx h0).2⟩, ho.out h.out h.gb⟩
end
end Go.Proofs.YtfpgbhimgfdddaaGreatDoor
