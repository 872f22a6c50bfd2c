/- The law's own helper numbers, at two equal lists; the reference's Valid; kind. -/
import Derived.Test.YtdleefphgjnhjaaLedger
namespace Go.Proofs.Ytdleefphgjnhjaa
open Go.RowKit
set_option linter.unusedVariables false

theorem ints_at {l : List Int} {k : Nat} (h : k < l.length) : (ints l)[k]? = some (.int .i64 l[k]) := by simp [ints, h]

theorem numbers_same (A B : Option Addr) (c d : Nat) (l : List Int) (w : World) (hA : Rd w w.heap.size A (ints l)) (hB : Rd w w.heap.size B (ints l)) (hl : l.length ≤ 65536) (hc : l.length ≤ c) (hd : l.length ≤ d) :
    Calls Try.prog 18 #[.slice A l.length c, .slice B l.length d] w fun e w' => e = .returned (.bool true) ∧ Below w.heap.size w w' := by
  go_enter Try.func18, Try.ntmps18
  go_wp2
  go_loopw [5] (fun i wr => ∃ k m : Nat, k ≤ l.length ∧ i = .int .i64 (k : Int) ∧ wr = w.drewN m) (fun i _ => l.length - (intOf i).toNat)
  case atStart => exact ⟨0, 0, Nat.zero_le _, rfl, rfl⟩
  case round =>
    obtain ⟨k, m, hk, rfl, rfl⟩ := hrel
    by_cases hlt : k < l.length
    · obtain ⟨b, off, rfl, _, hca⟩ := rd_pos hA (by simpa [ints] using Nat.lt_of_le_of_lt (Nat.zero_le k) hlt)
      obtain ⟨b', off', rfl, _, hcb⟩ := rd_pos hB (by simpa [ints] using Nat.lt_of_le_of_lt (Nat.zero_le k) hlt)
      have ca := hca k _ (ints_at hlt)
      have cb := hcb k _ (ints_at hlt)
      clear hca hcb
      have i0 : (0 : Int) ≤ (k : Int) := by omega
      have i1 : (k : Int) < (l.length : Int) := by omega
      go_wp2
      go_quiet (fail)
      go_wp2
      go_roundw
      case rel => exact ⟨k + 1, _, by omega, by go_num, rfl⟩
      case measure => simp [intOf]; omega
    · have hk' : k = l.length := by omega
      have i1 : ¬ (k : Int) < (l.length : Int) := by omega
      go_wp2
      go_returns
      exact ⟨rfl, below_dn (Below.refl _ _) _⟩

end Go.Proofs.Ytdleefphgjnhjaa
