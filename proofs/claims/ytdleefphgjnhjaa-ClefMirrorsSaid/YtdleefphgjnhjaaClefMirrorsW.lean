/- The walk of hemiola/hemiolalaw08.ClefMirrors: it returns true, and writes nothing that was there. -/
import Derived.Test.YtdleefphgjnhjaaKnown
import Derived.Test.YtdleefphgjnhjaaOpen
import Derived.OpenShut
namespace Go.Proofs.Ytdleefphgjnhjaa
open Go.RowKit
set_option linter.unusedVariables false
theorem led_pos (n : Nat) (h : n ≤ 200) : ledger (n : Int) = ups ((n - 4) / 2) := by
  unfold ledger
  rw [if_neg (by omega), show (((n : Int) - 4) / 2).toNat = (n - 4) / 2 from by omega, show ((-(n : Int) - 4) / 2).toNat = 0 from by omega]
  simp [downs]
theorem led_neg (n : Nat) (h : n ≤ 200) : ledger (-(n : Int)) = downs ((n - 4) / 2) := by
  unfold ledger
  rw [if_neg (by omega), show ((-(n : Int) - 4) / 2).toNat = 0 from by omega, show ((- -(n : Int) - 4) / 2).toNat = (n - 4) / 2 from by omega]
  simp [ups]
theorem ups_at {N i : Nat} (h : i < N) : (ints (ups N))[i]? = some (.int .i64 (6 + 2 * (i : Int))) := by
  simp [ints, ups, h]
theorem downs_at {N i : Nat} (h : i < N) : (ints (downs N))[i]? = some (.int .i64 (-6 - 2 * (i : Int))) := by
  simp [ints, downs, h]
theorem accI_form {W w : World} {v : Value} {l : List Int} {n : Nat} (h : AccI W w v l) (hl : l.length = n) : ∃ A c, v = .slice A n c ∧ n ≤ c ∧ Rd w w.heap.size A (ints l) := by
  obtain ⟨A, c, h1, h2, _, h3⟩ := acc_form h
  rw [hl] at h1 h2
  exact ⟨A, c, h1, h2, h3⟩

theorem walkMir (n N M : Nat) (a0 : Int) (w : World) (h0 : 0 ≤ a0) (h1 : a0 ≤ 255) (hn : a0 % 197 = (n : Int)) (hn1 : n ≤ 196) (hN : (n - 4) / 2 = N) (hM : (n - 2) / 2 = M) :
    Calls Try.prog 6 #[.int .u8 a0] w fun e w' => e = .returned (.bool true) ∧ Below w.heap.size w w' := by
  have L1 : Hid (ledger (n : Int) = ups N) := by have := led_pos n (by omega); rw [hN] at this; exact this
  have L2 : Hid (ledger (-(n : Int)) = downs N) := by have := led_neg n (by omega); rw [hN] at this; exact this
  have L3 : Hid (ledger ((n : Int) + 2) = ups M) := by
    have := led_pos (n + 2) (by omega)
    rw [show (n + 2 - 4) / 2 = M from by omega] at this
    exact this
  have hMN : N ≤ M := by omega
  have hM4 : Hid (n < 4 → N = 0 ∧ M = 0) := fun h => by omega
  have hM5 : Hid (4 ≤ n → M = N + 1) := fun h => by omega
  have hN9 : N ≤ 100 := by omega
  have e1 : a0.tmod 197 = (n : Int) := by rw [Int.tmod_eq_emod_of_nonneg h0]; exact hn
  clear hN hM hn
  go_enter Try.func6, Try.ntmps6
  go_wp2_with fail
  refine (ledger_any _ _ (by omega) (by omega)).mono ?_
  rintro e w1 ⟨v1, rfl, acc1⟩
  have B1 := acc1.below
  rw [L1.out] at acc1
  obtain ⟨A1, c1, rfl, d1, R1⟩ := accI_form acc1 (ups_len N)
  clear acc1
  go_wp2_with fail
  refine (ledger_any _ _ (by omega) (by omega)).mono ?_
  rintro e w2 ⟨v2, rfl, acc2⟩
  have b2 := acc2.below
  have B2 := next0 B1 b2
  have R12 := rd_below R1 b2
  rw [L2.out] at acc2
  obtain ⟨A2, c2, rfl, d2, R2⟩ := accI_form acc2 (downs_len N)
  clear acc2
  go_wp2_with fail
  refine (ledger_any _ _ (by omega) (by omega)).mono ?_
  rintro e w3 ⟨v3, rfl, acc3⟩
  have b3 := acc3.below
  have B3 := next0 B2 b3
  have R13 := rd_below R12 b3
  have R23 := rd_below R2 b3
  rw [L3.out] at acc3
  obtain ⟨A3, c3, rfl, d3, R3⟩ := accI_form acc3 (ups_len M)
  clear acc3
  go_wp2_with fail
  refine (known_any _).mono ?_
  rintro e w4 ⟨rfl, b4⟩
  have B4 := next0 B3 b4
  have R14 := rd_below R13 b4
  have R24 := rd_below R23 b4
  have R34 := rd_below R3 b4
  clear b2 b3 b4 B1 B2 B3 R1 R12 R13 R2 R23 R3
  go_wp2_with fail
  go_loopw [7] (fun i wr => ∃ k m : Nat, k ≤ N ∧ i = .int .i64 (k : Int) ∧ wr = w4.drewN m) (fun i _ => N - (intOf i).toNat)
  case atStart => exact ⟨0, 0, Nat.zero_le _, rfl, rfl⟩
  case round =>
    obtain ⟨k, m, hk, rfl, rfl⟩ := hrel
    by_cases hlt : k < N
    · obtain ⟨p1, o1, rfl, _, q1⟩ := rd_pos R14 (by simp [ints, ups_len]; omega)
      obtain ⟨p2, o2, rfl, _, q2⟩ := rd_pos R24 (by simp [ints, downs_len]; omega)
      obtain ⟨p3, o3, rfl, _, q3⟩ := rd_pos R34 (by simp [ints, ups_len]; omega)
      have x1 := q1 k _ (ups_at hlt)
      have x2 := q2 k _ (downs_at hlt)
      have x3 := q3 k _ (ups_at (Nat.lt_of_lt_of_le hlt hMN))
      clear q1 q2 q3
      have i0 : (0 : Int) ≤ (k : Int) := by omega
      have i1 : (k : Int) < (N : Int) := by omega
      have i2 : (k : Int) < (M : Int) := by omega
      have i3 : decide (M ≤ k) = false := by simp; omega
      have i4 : k < M := by omega
      have y1 : IntKind.i64.wrap (2 * (k : Int)) = 2 * (k : Int) := IntWalk.i64_in _ (by omega)
      have y2 : IntKind.i64.wrap (6 + 2 * (k : Int)) = 6 + 2 * (k : Int) := IntWalk.i64_in _ (by omega)
      have y3 : -(-6 - 2 * (k : Int)) = 6 + 2 * (k : Int) := by omega
      go_wp2
      go_quiet (fail)
      go_wp2
      go_roundw
      case rel => exact ⟨k + 1, _, by omega, by go_num, rfl⟩
      case measure => simp [intOf]; omega
    · obtain rfl : k = N := by omega
      have i1 : ¬ (k : Int) < (k : Int) := by omega
      by_cases h4 : n < 4
      · obtain ⟨rfl, rfl⟩ := hM4.out h4
        have h4' : (n : Int) < 4 := by omega
        go_wp2
        go_returns
        exact ⟨rfl, below_dn B4 _⟩
      · obtain rfl := hM5.out (by omega)
        have h4' : ¬ (n : Int) < 4 := by omega
        go_wp2
        go_returns
        exact ⟨ret_eq (by simp), below_dn B4 _⟩
theorem walkClefMirrors (a0 : Int) (w0 : (Lit.int .u8 a0).wf = true) (w : World) :
    Calls Try.prog 6 #[.int .u8 a0] w fun e w' => e = .returned (.bool true) ∧ Below w.heap.size w w' := by
  obtain ⟨h0, h1⟩ := bounds_u8 w0
  exact walkMir (a0 % 197).toNat _ _ a0 w h0 h1 (by omega) (by omega) rfl rfl
end Go.Proofs.Ytdleefphgjnhjaa
