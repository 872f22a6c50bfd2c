/- The walk of hemiola/hemiolalaw52.JournalDecodes: it returns true, and writes nothing that was there. -/
import Derived.Test.YthfnpakddnnccaaJknown
import Derived.OpenShut
namespace Go.Proofs.Ythfnpakddnnccaa
open Go.RowKit
set_option linter.unusedVariables false
theorem dec_both (T : ByteArray) (n : Int) (hT : T.size ≤ maxLen) : ∃ a : ByteArray, ∃ b c : Int,
    (∀ w, Calls Try.prog 18 #[.string T, .int .i64 n] w fun e w' => e = .returned (.tuple #[.string a, .int .i64 b, .int .i64 c]) ∧ Below w.heap.size w w') ∧
    (∀ w, Calls Try.prog 20 #[.string T, .int .i64 n] w fun e w' => e = .returned (.tuple #[.string a, .int .i64 b, .int .i64 c]) ∧ Below w.heap.size w w') :=
  ⟨_, _, _, fun w => decode_any T n w hT, fun w => lawdec_any T n w hT⟩
set_option maxHeartbeats 1000000 in
theorem walkJournalDecodes (s : ByteArray) (w0 : s.size ≤ maxLen) (n : Int) (w1 : (Lit.int .i64 n).wf = true) (w : World) :
    Calls Try.prog 5 #[.string s, .int .i64 n] w fun e w' => e = .returned (.bool true) ∧ Below w.heap.size w w' := by
  have h200 : (s.extract 0 200).size ≤ maxLen := by rw [ByteArray.size_extract]; unfold maxLen; omega
  have d1 := dec_both s n w0
  have d2 := dec_both (s.extract 0 200) n h200
  have D1 := Lib.hid d1
  have D2 := Lib.hid d2
  clear d1 d2 h200
  unfold maxLen at w0
  go_enter Try.func5, Try.ntmps5
  go_wp2_with fail
  case inr =>
    obtain ⟨a, b, c, cd, cl⟩ := D1.out
    clear D1 D2
    refine (known_any _).mono ?_
    rintro e w1 ⟨rfl, B1⟩
    have z1 := B1.size
    go_wp2_with fail
    refine (cd _).mono ?_
    rintro e w2 ⟨rfl, B2⟩
    have z2 := B2.size
    go_wp2_with fail
    refine (cl _).mono ?_
    rintro e w3 ⟨rfl, B3⟩
    go_wp2
    go_returns
    exact ⟨rfl, (B1.trans (B2.mono z1)).trans (B3.mono (Nat.le_trans z1 z2))⟩
  case inl =>
    obtain ⟨a, b, c, cd, cl⟩ := D2.out
    clear D1 D2
    generalize s.extract 0 200 = T at *
    refine (known_any _).mono ?_
    rintro e w1 ⟨rfl, B1⟩
    have z1 := B1.size
    go_wp2_with fail
    refine (cd _).mono ?_
    rintro e w2 ⟨rfl, B2⟩
    have z2 := B2.size
    go_wp2_with fail
    refine (cl _).mono ?_
    rintro e w3 ⟨rfl, B3⟩
    go_wp2
    go_returns
    exact ⟨rfl, (B1.trans (B2.mono z1)).trans (B3.mono (Nat.le_trans z1 z2))⟩
end Go.Proofs.Ythfnpakddnnccaa
