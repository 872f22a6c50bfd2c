/- The walk of hemiola/hemiolalaw52.JournalChecksums: it returns true, and writes nothing that was there. -/
import Derived.Test.YthfnpakddnnccaaTurn
import Derived.OpenShut
namespace Go.Proofs.Ythfnpakddnnccaa
open Go.RowKit
set_option linter.unusedVariables false
set_option maxHeartbeats 2000000 in
theorem walkJournalChecksums (s : ByteArray) (w0 : s.size ≤ maxLen) (p : Int) (w1 : (Lit.int .u8 p).wf = true) (d : Int) (w2 : (Lit.int .u8 d).wf = true) (w : World) :
    Calls Try.prog 3 #[.string s, .int .u8 p, .int .u8 d] w fun e w' => e = .returned (.bool true) ∧ Below w.heap.size w w' := by
  obtain ⟨p0, p1⟩ := bounds_u8 w1
  obtain ⟨d0, d1⟩ := bounds_u8 w2
  clear w1 w2
  have h200 : (s.extract 0 200).size ≤ maxLen := by rw [ByteArray.size_extract]; unfold maxLen; omega
  have H200 := Lib.hid h200
  have H0 := Lib.hid w0
  clear h200
  unfold maxLen at w0
  go_enter Try.func3, Try.ntmps3
  go_wp2_with fail
  case inr =>
    clear H200
    refine (known_any _).mono ?_
    rintro e w1 ⟨rfl, B1⟩
    have z1 := B1.size
    go_wp2_with fail
    refine (checksum_any s _ H0.out).mono ?_
    rintro e w2 ⟨rfl, rfl⟩
    go_wp2_with fail
    refine (lawsum_any s _ H0.out).mono ?_
    rintro e w3 ⟨rfl, rfl⟩
    by_cases hz : s.size = 0
    · have hz' : (s.size : Int) = 0 := by omega
      go_wp2
      go_returns
      exact ⟨rfl, B1⟩
    · have hz' : ((s.size : Int) == 0) = false := by simpa using hz
      have hz2 : (0 : Int) < s.size := by omega
      have zz : s.size ≤ 9223372036854775807 := H0.out
      have hct := Lib.hid (turn_crc s)
      have hlt := crc_lt s
      go_wp2
      obtain ⟨W4, cap, hconv, hcell, hfro, hsz, hbel, hcap⟩ := lay_conv s w3
      rw [hconv]
      have hconv2 := Lib.hid (turn_conv s W4 w3.heap.size)
      clear hconv
      obtain ⟨k, hk, hm⟩ : ∃ k : Nat, k < s.size ∧ p % (s.size : Int) = (k : Int) :=
        ⟨(p % (s.size : Int)).toNat, by have := Int.emod_lt_of_pos p hz2; have := Int.emod_nonneg p (show (s.size : Int) ≠ 0 by omega); omega, by have := Int.emod_nonneg p (show (s.size : Int) ≠ 0 by omega); omega⟩
      have hm2 : p.tmod (s.size : Int) = (k : Int) := by rw [Int.tmod_eq_emod_of_nonneg p0]; exact hm
      have ck := hcell k hk
      have fk := hfro k hk
      have hD := Lib.hid hcell
      clear hcell hfro
      obtain ⟨D, rfl⟩ := Int.eq_ofNat_of_zero_le d0
      have hx8 : (s.data.getD k 0).toNat < 256 := UInt8.toNat_lt _
      have hbx : bits .xor .u8 ((s.data.getD k 0).toNat : Int) (D : Int) = (((s.data.getD k 0).toNat ^^^ D : Nat) : Int) := u8_xor_nat _ D hx8 (by omega)
      have hy8 : (s.data.getD k 0).toNat ^^^ D < 256 := by
        have := Nat.xor_lt_two_pow (x := (s.data.getD k 0).toNat) (y := D) (n := 8) hx8 (by omega)
        omega
      have hcv := hconv2.out k ((s.data.getD k 0).toNat ^^^ D) cap hk hy8 hD.out
      have hcr := hct.out k D hk (by omega)
      clear hx8
      have hL : (s.data.toList.set k (UInt8.ofNat ((s.data.getD k 0).toNat ^^^ D))).toArray.size ≤ maxLen := by
        rw [List.size_toArray, List.length_set]; exact H0.out
      generalize s.data.toList.set k (UInt8.ofNat ((s.data.getD k 0).toNat ^^^ D)) = L at *
      generalize (s.data.getD k 0).toNat ^^^ D = y at *
      generalize (s.data.getD k 0).toNat = x at *
      have HL := Lib.hid hL
      have hcl := crc_lt ⟨L.toArray⟩
      clear hL hm
      obtain ⟨bb, hb1, hb2⟩ : ∃ bb : Bool, ((crc ⟨L.toArray⟩ : Int) == (crc s : Int)) = bb ∧ ((D : Int) == 0) = bb := by
        by_cases hd : D = 0
        · exact ⟨true, by rw [hcr.2 hd]; simp, by rw [hd]; rfl⟩
        · exact ⟨false, by rw [beq_eq_false_iff_ne]; intro e; exact hd (hcr.1 (by omega)), by rw [beq_eq_false_iff_ne]; omega⟩
      clear hcr
      go_wp2_with fail
      refine (checksum_any ⟨L.toArray⟩ _ HL.out).mono ?_
      rintro e w5 ⟨rfl, rfl⟩
      go_wp2_with fail
      refine (lawsum_any s _ H0.out).mono ?_
      rintro e w5 ⟨rfl, rfl⟩
      go_wp2
      go_returns
      exact ⟨by cases bb <;> rfl, (B1.trans (hbel.mono z1)).setCell z1 _⟩
  case inl =>
    clear H0
    have H0 := H200
    clear H200
    generalize s.extract 0 200 = T at *
    refine (known_any _).mono ?_
    rintro e w1 ⟨rfl, B1⟩
    have z1 := B1.size
    go_wp2_with fail
    refine (checksum_any T _ H0.out).mono ?_
    rintro e w2 ⟨rfl, rfl⟩
    go_wp2_with fail
    refine (lawsum_any T _ H0.out).mono ?_
    rintro e w3 ⟨rfl, rfl⟩
    by_cases hz : T.size = 0
    · have hz' : (T.size : Int) = 0 := by omega
      go_wp2
      go_returns
      exact ⟨rfl, B1⟩
    · have hz' : ((T.size : Int) == 0) = false := by simpa using hz
      have hz2 : (0 : Int) < T.size := by omega
      have zz : T.size ≤ 9223372036854775807 := H0.out
      have hct := Lib.hid (turn_crc T)
      have hlt := crc_lt T
      go_wp2
      obtain ⟨W4, cap, hconv, hcell, hfro, hsz, hbel, hcap⟩ := lay_conv T w3
      rw [hconv]
      have hconv2 := Lib.hid (turn_conv T W4 w3.heap.size)
      clear hconv
      obtain ⟨k, hk, hm⟩ : ∃ k : Nat, k < T.size ∧ p % (T.size : Int) = (k : Int) :=
        ⟨(p % (T.size : Int)).toNat, by have := Int.emod_lt_of_pos p hz2; have := Int.emod_nonneg p (show (T.size : Int) ≠ 0 by omega); omega, by have := Int.emod_nonneg p (show (T.size : Int) ≠ 0 by omega); omega⟩
      have hm2 : p.tmod (T.size : Int) = (k : Int) := by rw [Int.tmod_eq_emod_of_nonneg p0]; exact hm
      have ck := hcell k hk
      have fk := hfro k hk
      have hD := Lib.hid hcell
      clear hcell hfro
      obtain ⟨D, rfl⟩ := Int.eq_ofNat_of_zero_le d0
      have hx8 : (T.data.getD k 0).toNat < 256 := UInt8.toNat_lt _
      have hbx : bits .xor .u8 ((T.data.getD k 0).toNat : Int) (D : Int) = (((T.data.getD k 0).toNat ^^^ D : Nat) : Int) := u8_xor_nat _ D hx8 (by omega)
      have hy8 : (T.data.getD k 0).toNat ^^^ D < 256 := by
        have := Nat.xor_lt_two_pow (x := (T.data.getD k 0).toNat) (y := D) (n := 8) hx8 (by omega)
        omega
      have hcv := hconv2.out k ((T.data.getD k 0).toNat ^^^ D) cap hk hy8 hD.out
      have hcr := hct.out k D hk (by omega)
      clear hx8
      have hL : (T.data.toList.set k (UInt8.ofNat ((T.data.getD k 0).toNat ^^^ D))).toArray.size ≤ maxLen := by
        rw [List.size_toArray, List.length_set]; exact H0.out
      generalize T.data.toList.set k (UInt8.ofNat ((T.data.getD k 0).toNat ^^^ D)) = L at *
      generalize (T.data.getD k 0).toNat ^^^ D = y at *
      generalize (T.data.getD k 0).toNat = x at *
      have HL := Lib.hid hL
      have hcl := crc_lt ⟨L.toArray⟩
      clear hL hm
      obtain ⟨bb, hb1, hb2⟩ : ∃ bb : Bool, ((crc ⟨L.toArray⟩ : Int) == (crc T : Int)) = bb ∧ ((D : Int) == 0) = bb := by
        by_cases hd : D = 0
        · exact ⟨true, by rw [hcr.2 hd]; simp, by rw [hd]; rfl⟩
        · exact ⟨false, by rw [beq_eq_false_iff_ne]; intro e; exact hd (hcr.1 (by omega)), by rw [beq_eq_false_iff_ne]; omega⟩
      clear hcr
      go_wp2_with fail
      refine (checksum_any ⟨L.toArray⟩ _ HL.out).mono ?_
      rintro e w5 ⟨rfl, rfl⟩
      go_wp2_with fail
      refine (lawsum_any T _ H0.out).mono ?_
      rintro e w5 ⟨rfl, rfl⟩
      go_wp2
      go_returns
      exact ⟨by cases bb <;> rfl, (B1.trans (hbel.mono z1)).setCell z1 _⟩
end Go.Proofs.Ythfnpakddnnccaa
