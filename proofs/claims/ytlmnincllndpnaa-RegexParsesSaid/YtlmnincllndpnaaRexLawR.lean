/- The statement RegexParses, walked. -/
import Derived.Test.YtlmnincllndpnaaRefShow
import Derived.Test.YtlmnincllndpnaaRexLawG
namespace Go.Proofs.Ytlmnincllndpnaa
open Go.RowKit
attribute [local go_sem ↓] Go.wp_at_zero Go.wp_at_succ
attribute [local go_sem] Later.cell Later.frozen

set_option maxRecDepth 100000 in
set_option maxHeartbeats 1000000 in
theorem regexParses_calls (s : ByteArray) (w : World) :
    Calls Try.prog 6 #[.string s] w fun e w' => e = .returned (.bool true) ∧ Below w.heap.size w w' := by
  obtain ⟨res, hres⟩ := parses_total s.data.toList
  have HRES := Lib.hid hres
  clear hres
  cases res with
  | error c =>
    go_enter Try.func6, Try.ntmps6
    go_wp2_with fail
    refine (parse_calls s _ HRES.out w).mono ?_
    rintro e w1 ⟨rfl, hb1⟩
    go_wp2_with fail
    refine (rparse_calls s _ HRES.out w1).mono ?_
    rintro e w2 ⟨hc, rfl, hb2⟩
    go_wp2_with fail
    refine (wakes06_calls w2).mono ?_
    rintro e w3 ⟨rfl, hb3⟩
    have e0 : ((c : Int) != 0) = true := by simp; omega
    go_wp2_with fail
    refine (show_nil w3).mono ?_
    rintro e w4 ⟨rfl, rfl⟩
    go_wp2_with fail
    go_ret
    exact ⟨rfl, then_ (then_ hb1 hb2) hb3⟩
  | ok u =>
    have hz := parses_show HRES.out
    go_enter Try.func6, Try.ntmps6
    go_wp2_with fail
    refine (parse_calls s _ HRES.out w).mono ?_
    rintro e w1 ⟨p, rfl, ht, hb1⟩
    go_wp2_with fail
    refine (rparse_calls s _ HRES.out w1).mono ?_
    rintro e w2 ⟨t, ns, n, rfl, hn, hnb, htree, hnode, hb2⟩
    have HN := Lib.hid hn
    clear hn
    go_wp2_with fail
    refine (wakes06_calls w2).mono ?_
    rintro e w3 ⟨rfl, hb3⟩
    have hcall := show_calls u p w3 ((ht.below (then_ hb2 hb3) (Nat.le_refl _) (then_ hb2 hb3).size).is) (by omega)
    obtain ⟨T, hT⟩ : ∃ T, (⟨(showT u).toArray⟩ : ByteArray) = T := ⟨_, rfl⟩
    rw [hT] at hcall
    have HC := Lib.hid hcall
    clear hcall
    go_wp2_with fail
    refine HC.out.mono ?_
    rintro e w4 ⟨rfl, hb4⟩
    have hcall := rshow_calls u w4 t ns n HN.out hnb ((htree.below hb3).below hb4) hnode (by omega)
    rw [hT] at hcall
    have HC2 := Lib.hid hcall
    clear hcall hT
    go_wp2_with fail
    refine HC2.out.mono ?_
    rintro e w5 ⟨rfl, hb5⟩
    go_wp2_with fail
    go_ret
    exact ⟨by simp, then_ (then_ (then_ (then_ hb1 hb2) hb3) hb4) hb5⟩
end Go.Proofs.Ytlmnincllndpnaa
