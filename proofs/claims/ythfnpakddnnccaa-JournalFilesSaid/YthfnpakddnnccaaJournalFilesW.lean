/- The walk of hemiola/hemiolalaw52.JournalFiles: it returns true, and writes nothing that was there. -/
import Derived.Test.YthfnpakddnnccaaOpenJ
import Derived.OpenShut
namespace Go.Proofs.Ythfnpakddnnccaa
open Go.RowKit
set_option linter.unusedVariables false
set_option maxHeartbeats 1000000 in
theorem walkJournalFiles {w : World} (A : Option Addr) (c : Nat) (ops : List OpD) (hc : ops.length ≤ c) (hrd : RdOps w w.heap.size A ops) (hok : ∀ o ∈ ops, o.okR) (_w : World) :
    Calls Try.prog 9 #[.slice A ops.length c] w fun e w' => e = .returned (.bool true) ∧ Below w.heap.size w w' := by
  have Hok := Lib.hid hok
  have Hrd := Lib.hid hrd
  clear hok hrd
  by_cases hn : 30 < ops.length
  · go_enter Try.func9, Try.ntmps9
    go_wp2_with fail
    refine (known_any _).mono ?_
    rintro e w1 ⟨rfl, B1⟩
    have z1 := B1.size
    go_wp2_with fail
    refine (known_any _).mono ?_
    rintro e w2 ⟨rfl, B2⟩
    go_wp2_with fail
    go_returns
    exact ⟨rfl, B1.trans (B2.mono z1)⟩
  · go_enter Try.func9, Try.ntmps9
    go_wp2_with fail
    refine (known_any _).mono ?_
    rintro e w1 ⟨rfl, B1⟩
    have z1 := B1.size
    have cp := play_any A c ops w1 (by omega) hc Hok.out (Hrd.out.below B1)
    go_wp2_with fail
    refine cp.mono ?_
    rintro e w2 ⟨rfl, v, hI⟩
    have B2 := hI.below
    go_wp2_with fail
    go_returns
    exact ⟨rfl, B1.trans (B2.mono z1)⟩
end Go.Proofs.Ythfnpakddnnccaa
