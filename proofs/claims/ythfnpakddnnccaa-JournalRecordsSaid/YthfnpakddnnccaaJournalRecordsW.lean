/- The walk of hemiola/hemiolalaw52.JournalRecords: it returns true, and writes nothing that was there. -/
import Derived.Test.YthfnpakddnnccaaMake
import Derived.OpenShut
namespace Go.Proofs.Ythfnpakddnnccaa
open Go.RowKit
set_option linter.unusedVariables false
theorem none_empty : none'.toList.isEmpty = true := by rw [ByteArray.toList_eq]; rfl
set_option maxRecDepth 100000 in
set_option maxHeartbeats 2000000 in
theorem walkJournalRecords (n : Int) (w0 : (Lit.int .i64 n).wf = true) (r : ByteArray) (w1 : r.size ≤ maxLen) (t : ByteArray) (w2 : t.size ≤ maxLen) (w : World) :
    Calls Try.prog 4 #[.int .i64 n, .string r, .string t] w fun e w' => e = .returned (.bool true) ∧ Below w.heap.size w w' := by
  unfold maxLen at w1 w2
  have hR : (r.extract 0 (if 300 < (r.size : Int) then 300 else (r.size : Int)).toNat).size ≤ 300 := by
    rw [ByteArray.size_extract]; split <;> omega
  have hT : (t.extract 0 (if 40 < (t.size : Int) then 40 else (t.size : Int)).toNat).size ≤ 40 := by
    rw [ByteArray.size_extract]; split <;> omega
  have HR := Lib.hid hR
  have HT := Lib.hid hT
  clear hR hT
  go_enter Try.func4, Try.ntmps4
  go_wp2_with fail
  go_region
  generalize r.extract 0 (if 300 < (r.size : Int) then 300 else (r.size : Int)).toNat = R at *
  generalize t.extract 0 (if 40 < (t.size : Int) then 40 else (t.size : Int)).toNat = T at *
  generalize (if 300 < (r.size : Int) then 300 else (r.size : Int)) = m1 at *
  generalize (if 40 < (t.size : Int) then 40 else (t.size : Int)) = m2 at *
  have hR := HR.out
  have hT := HT.out
  clear HR HT
  go_wp2_with fail
  refine (known_any _).mono ?_
  rintro e w1 ⟨rfl, B1⟩
  have z1 := B1.size
  go_wp2_with fail
  obtain ⟨W2, Z, hmk, hcv, hZ, B2, z2⟩ := make_long w1
  rw [hmk]
  clear hmk
  go_wp2_with fail
  refine (encode_long 0 Z _ (by unfold maxLen; omega) (by omega) (by omega) (by omega)).mono ?_
  rintro e w3 ⟨rfl, rfl⟩
  have B3 : Below w.heap.size w w3 := (show Below w.heap.size w w1 from ((Below.refl _ _).drew.trans B1)).trans (B2.mono (Nat.le_trans (Nat.le_refl _) z1))
  have z3 := B3.size
  clear hcv
  by_cases hn : n < 0 ∨ 2147483647 < n
  · go_wp2_with fail
    refine (encode_bad n R _ (by unfold maxLen; omega) hn).mono ?_
    rintro e w4 ⟨rfl, rfl⟩
    have hne := none_empty
    rcases hn with hn | hn
    · go_wp2_with fail
      go_returns
      exact ⟨rfl, B3⟩
    · have hn0 : 0 ≤ n := by omega
      have hn1 : 2147483648 ≤ n := by omega
      go_wp2_with fail
      go_returns
      exact ⟨rfl, B3⟩
  · obtain ⟨k, rfl⟩ : ∃ k : Nat, n = (k : Int) := ⟨n.toNat, by omega⟩
    have hk : k ≤ 2147483647 := by omega
    have hk1 : (k : Int) < 2147483648 := by omega
    have hd := dec_enc k R T hk (by omega)
    have hsz : (encS k R).size = 12 + R.size := size_enc k R
    have c4 := fun w => encode_ok k R w hk (by omega)
    have c6 := fun w => lawenc_ok k R w hk (by omega)
    have c5 := fun w => decode_any (encS k R ++ T) (k : Int) w (by rw [ByteArray.size_append, hsz]; unfold maxLen; omega)
    rw [hd] at c5
    simp only [decV] at c5
    have ha := str_add (encS k R) T (by omega)
    clear hd hn
    generalize encS k R = S at *
    generalize S ++ T = ST at *
    have hlen : ((12 + R.size : Nat) : Int) = (S.size : Int) := by omega
    rw [hlen] at c5
    clear hlen hsz w0
    have k0 : ¬ (k : Int) < 0 := by omega
    have k1 : ¬ (2147483648 : Int) ≤ (k : Int) := by omega
    clear hk hk1
    generalize (k : Int) = n at *
    go_wp2_with fail
    refine (c4 _).mono ?_
    rintro e w4 ⟨rfl, B4⟩
    have z4 := B4.size
    go_wp2_with fail
    refine (c5 _).mono ?_
    rintro e w5 ⟨rfl, B5⟩
    have z5 := B5.size
    go_wp2_with fail
    refine (c6 _).mono ?_
    rintro e w6 ⟨rfl, B6⟩
    go_wp2
    go_returns
    exact ⟨rfl, ((B3.trans (B4.mono z3)).trans (B5.mono (Nat.le_trans z3 z4))).trans (B6.mono (Nat.le_trans z3 (Nat.le_trans z4 z5)))⟩
end Go.Proofs.Ythfnpakddnnccaa
