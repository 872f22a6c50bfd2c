/- The walk of hemiola/hemiolalaw09.SpellingScales: it returns true, and writes nothing that was there. -/
import Derived.Test.YtdmhjcnijebfgaaSref9
import Derived.Test.YtdmhjcnijebfgaaSopen
import Derived.OpenShut
namespace Go.Proofs.Ytdmhjcnijebfgaa
open Go.RowKit
set_option linter.unusedVariables false
set_option maxHeartbeats 4000000 in
theorem walkSpellingScales {w : World} (f : Int) (_wf : (Lit.int .i64 f).wf = true) (n : Int) (_wn : (Lit.int .i64 n).wf = true) (_w : World) :
    Calls Try.prog 7 #[.int .i64 f, .int .i64 n] w fun e w' => e = .returned (.bool true) ∧ Below w.heap.size w w' := by
  clear _wf _wn
  have hc : f < -7 ∨ (-7 ≤ f ∧ 7 < f) ∨ (-7 ≤ f ∧ f ≤ 7 ∧ n < 0) ∨ (-7 ≤ f ∧ f ≤ 7 ∧ 0 ≤ n ∧ 116 < n) ∨ (-7 ≤ f ∧ f ≤ 7 ∧ 0 ≤ n ∧ n ≤ 116) := by omega
  rcases hc with h1 | ⟨h0, h1⟩ | ⟨h0, h1, h2⟩ | ⟨h0, h1, h2, h3⟩ | ⟨h0, h1, h2, h3⟩
  · have cs := scale_range f n w (.inl h1)
    go_enter Try.func7, Try.ntmps7
    go_wp2_with (first | (go_at_call 22; refine cs.mono ?_; rintro e w1 ⟨rfl, hb1⟩; clear cs) | (go_at_call 14; refine (known_any _).mono ?_; rintro e w2 ⟨rfl, hb2⟩))
    go_returns
    exact ⟨by first | rfl | (simp; done), next0 hb1 hb2⟩
  · have cs := scale_range f n w (.inr h1)
    go_enter Try.func7, Try.ntmps7
    go_wp2_with (first | (go_at_call 22; refine cs.mono ?_; rintro e w1 ⟨rfl, hb1⟩; clear cs) | (go_at_call 14; refine (known_any _).mono ?_; rintro e w2 ⟨rfl, hb2⟩))
    go_returns
    exact ⟨by first | rfl | (simp; done), next0 hb1 hb2⟩
  · have cs := scale_from f n w h0 h1 (.inl h2)
    go_enter Try.func7, Try.ntmps7
    go_wp2_with (first | (go_at_call 22; refine cs.mono ?_; rintro e w1 ⟨rfl, hb1⟩; clear cs) | (go_at_call 14; refine (known_any _).mono ?_; rintro e w2 ⟨rfl, hb2⟩))
    go_returns
    exact ⟨by first | rfl | (simp; done), next0 hb1 hb2⟩
  · have cs := scale_from f n w h0 h1 (.inr h3)
    go_enter Try.func7, Try.ntmps7
    go_wp2_with (first | (go_at_call 22; refine cs.mono ?_; rintro e w1 ⟨rfl, hb1⟩; clear cs) | (go_at_call 14; refine (known_any _).mono ?_; rintro e w2 ⟨rfl, hb2⟩))
    go_returns
    exact ⟨by first | rfl | (simp; done), next0 hb1 hb2⟩
  · have cs := scale_ok f n w h0 h1 h2 h3
    go_enter Try.func7, Try.ntmps7
    go_wp2_with fail
    refine cs.mono ?_
    rintro e w1 ⟨L, v, W, hL, rfl, hbW, hacc⟩
    clear cs
    obtain ⟨A, c, hv, hcc, hcm, hrd⟩ := acc_form hacc
    have hb1 : Below w.heap.size w w1 := hbW.trans (hacc.below.mono hbW.size)
    rw [hL.1] at hv hcc
    subst hv
    have HL := Lib.hid hL
    have Hrd := Lib.hid hrd
    clear hL hrd hacc hbW hcm
    go_wp2_with (go_at_call 14; refine (known_any _).mono ?_; rintro e w2 ⟨rfl, hb2⟩)
    refine (rscale_ok f n w2 h0 h1 h2 h3).mono ?_
    rintro e w3 ⟨M, v, hM, rfl, hacc⟩
    have e : M = L := hM.uniq HL.out
    subst e
    obtain ⟨B, d, hv, hdd, hdm, hrd2⟩ := acc_form hacc
    have hb3 := hacc.below
    rw [hM.1] at hv
    subst hv
    have cs := same_same A B c d M w3 (rd_below (rd_below Hrd.out hb2) hb3) hrd2 (by rw [hM.1]; decide)
    rw [hM.1] at cs
    clear hM HL Hrd hacc hrd2 hdd hdm
    go_wp2_with fail
    refine cs.mono ?_
    rintro e w4 ⟨rfl, hb4⟩
    go_wp2_with fail
    go_returns
    exact ⟨by first | rfl | (simp; done), next0 (next0 (next0 hb1 hb2) hb3) hb4⟩
end Go.Proofs.Ytdmhjcnijebfgaa
