/- The walk of hemiola/hemiolalaw08.ClefNames: it returns true, and writes nothing that was there. -/
import Derived.Test.YtdleefphgjnhjaaKnown
import Derived.Test.YtdleefphgjnhjaaRefsig
import Derived.Test.YtdleefphgjnhjaaNames
import Derived.Test.YtdleefphgjnhjaaOpen
import Derived.OpenShut
namespace Go.Proofs.Ytdleefphgjnhjaa
open Go.RowKit
set_option linter.unusedVariables false
theorem names_ne : ∀ i j : Fin 9, i ≠ j → kName ((i.val : Int) + 1) ≠ kName ((j.val : Int) + 1) := by decide
theorem names_ne' {i j : Nat} (hi : i < 9) (hj : j < 9) (h : i ≠ j) : kName ((i : Int) + 1) ≠ kName ((j : Int) + 1) := names_ne ⟨i, hi⟩ ⟨j, hj⟩ (by simpa using h)
theorem only_name (k : Nat) (hk : k < 9) : Only (kName ((k : Int) + 1)) k :=
  ⟨by omega, fun i hi => ⟨fun h => by
    rcases Nat.lt_trichotomy i k with hlt | heq | hgt
    · exact absurd h (names_ne' hi hk (by omega))
    · exact heq
    · exact absurd h (names_ne' hi hk (by omega)), fun h => by rw [h]⟩⟩
theorem only_any (nm : ByteArray) : ∃ F, Only nm F := by
  by_cases h : ∃ k : Nat, k < 9 ∧ kName ((k : Int) + 1) = nm
  · obtain ⟨k, hk, rfl⟩ := h
    exact ⟨k, only_name k hk⟩
  · exact ⟨9, Nat.le_refl _, fun i hi => ⟨fun e => absurd ⟨i, hi, e⟩ h, fun e => by omega⟩⟩

set_option maxRecDepth 100000 in
set_option maxHeartbeats 4000000 in
theorem walkClefNames (c : Int) (w0 : (Lit.int .i64 c).wf = true) (nm : ByteArray) (w1 : nm.size ≤ maxLen) (w : World) :
    Calls Try.prog 10 #[.int .i64 c, .string nm] w fun e w' => e = .returned (.bool true) ∧ Below w.heap.size w w' := by
  unfold maxLen at w1
  by_cases hsz : nm.size ≤ 30
  · go_enter Try.func10, Try.ntmps10
    go_wp2_with fail
    refine (known_any _).mono ?_
    rintro e w1 ⟨rfl, B1⟩
    go_wp2_with fail
    obtain ⟨F, hF⟩ := only_any nm
    have HF := Lib.hid hF
    have hF9 := hF.1
    clear hF
    refine (clefs_any _).mono ?_
    rintro e w2 ⟨rfl, rfl⟩
    go_wp2_with fail
    go_loop [5, 7] (fun v i => ∃ k : Nat, k ≤ 9 ∧ i = .int .i64 (k : Int) ∧ v = .int .i64 (if F < k then (F : Int) + 1 else 0)) (fun _ i => 9 - (intOf i).toNat)
    case atStart => exact ⟨0, by omega, rfl, rfl⟩
    case round =>
      obtain ⟨k, hk, rfl, rfl⟩ := hrel
      by_cases hlt : k < 9
      · obtain ⟨a0, a1, a2, a3, a4, a5, a6⟩ := kindsA_all k hlt
        clear a1 a2 a3 a4 a5 a6
        have i0 : (0 : Int) ≤ (k : Int) := by omega
        have i1 : (k : Int) < 9 := by omega
        by_cases he : kName ((k : Int) + 1) = nm
        · obtain rfl : k = F := (HF.out.2 k hlt).1 he
          go_wp2
          go_round
          case rel => exact ⟨k + 1, by omega, by go_num, by rw [if_pos (by omega)]⟩
          case measure => simp [intOf]; omega
        · have hne : k ≠ F := fun e => he ((HF.out.2 k hlt).2 e)
          have hs2 := str_ne he
          clear he
          generalize kName ((k : Int) + 1) = s1 at *
          go_wp2
          go_round
          case rel => exact ⟨k + 1, by omega, by go_num, by by_cases h : F < k <;> simp [h] <;> omega⟩
          case measure => simp [intOf]; omega
      · obtain rfl : k = 9 := by omega
        by_cases hf : F < 9
        · rw [if_pos hf]
          go_wp2_with fail
          refine (find_any _ F _ HF.out).mono ?_
          rw [if_pos hf, if_pos hf]
          rintro e w3 ⟨rfl, b3⟩
          have B3 := b3
          by_cases hc : c < 1 ∨ 9 < c
          · skip
            go_wp2_with fail
            refine (name_bad _ _ hc).mono ?_
            rintro e w4 ⟨rfl, b4⟩
            have B4 := next0 B3 b4
            go_wp2_with fail
            refine (sign_bad _ _ hc).mono ?_
            rintro e w5 ⟨rfl, b5⟩
            have B5 := next0 B4 b5
            go_wp2_with fail
            refine (valid_bad _ _ hc).mono ?_
            rintro e w6 ⟨rfl, b6⟩
            have B6 := next0 B5 b6
            go_wp2_with fail
            go_returns
            exact ⟨rfl, next1 B1 B6⟩
          · obtain ⟨k, rfl⟩ : ∃ k : Nat, c = (k : Int) + 1 := ⟨(c - 1).toNat, by omega⟩
            have hk9 : k < 9 := by omega
            have c1 : (1 : Int) ≤ (k : Int) + 1 := by omega
            have c9 : (k : Int) + 1 ≤ 9 := by omega
            clear hc
            go_wp2_with fail
            refine (name_ok _ _ c1 c9).mono ?_
            rintro e w4 ⟨rfl, b4⟩
            have B4 := next0 B3 b4
            go_wp2_with fail
            refine (sign_ok _ _ c1 c9).mono ?_
            rintro e w5 ⟨rfl, b5⟩
            have B5 := next0 B4 b5
            go_wp2_with fail
            refine (valid_ok _ _ c1 c9).mono ?_
            rintro e w6 ⟨rfl, b6⟩
            have B6 := next0 B5 b6
            go_wp2_with fail
            refine (find_any _ k _ (only_name k hk9)).mono ?_
            rw [if_pos hk9, if_pos hk9]
            rintro e w7 ⟨rfl, b7⟩
            have B7 := next0 B6 b7
            have hz7 := B7.size
            simp only [World.size_alloc] at hz7
            have hy7 : w1.heap.size < w7.heap.size := by omega
            obtain ⟨hc7, hf7⟩ := bcell B7
            obtain ⟨a0, a1, a2, a3, a4, a5, a6⟩ := kindsA_all k hk9
            have i0 : (0 : Int) ≤ (k : Int) := by omega
            have i1 : (k : Int) < 9 := by omega
            go_wp2_with fail
            go_returns
            exact ⟨rfl, (next1 B1 B7).alloc (next1 B1 B7).size _⟩
        · rw [if_neg hf]
          go_wp2_with fail
          refine (find_any _ F _ HF.out).mono ?_
          rw [if_neg hf, if_neg hf]
          rintro e w3 ⟨rfl, b3⟩
          have B3 := b3
          by_cases hc : c < 1 ∨ 9 < c
          · skip
            go_wp2_with fail
            refine (name_bad _ _ hc).mono ?_
            rintro e w4 ⟨rfl, b4⟩
            have B4 := next0 B3 b4
            go_wp2_with fail
            refine (sign_bad _ _ hc).mono ?_
            rintro e w5 ⟨rfl, b5⟩
            have B5 := next0 B4 b5
            go_wp2_with fail
            refine (valid_bad _ _ hc).mono ?_
            rintro e w6 ⟨rfl, b6⟩
            have B6 := next0 B5 b6
            go_wp2_with fail
            go_returns
            exact ⟨rfl, next1 B1 B6⟩
          · obtain ⟨k, rfl⟩ : ∃ k : Nat, c = (k : Int) + 1 := ⟨(c - 1).toNat, by omega⟩
            have hk9 : k < 9 := by omega
            have c1 : (1 : Int) ≤ (k : Int) + 1 := by omega
            have c9 : (k : Int) + 1 ≤ 9 := by omega
            clear hc
            go_wp2_with fail
            refine (name_ok _ _ c1 c9).mono ?_
            rintro e w4 ⟨rfl, b4⟩
            have B4 := next0 B3 b4
            go_wp2_with fail
            refine (sign_ok _ _ c1 c9).mono ?_
            rintro e w5 ⟨rfl, b5⟩
            have B5 := next0 B4 b5
            go_wp2_with fail
            refine (valid_ok _ _ c1 c9).mono ?_
            rintro e w6 ⟨rfl, b6⟩
            have B6 := next0 B5 b6
            go_wp2_with fail
            refine (find_any _ k _ (only_name k hk9)).mono ?_
            rw [if_pos hk9, if_pos hk9]
            rintro e w7 ⟨rfl, b7⟩
            have B7 := next0 B6 b7
            have hz7 := B7.size
            simp only [World.size_alloc] at hz7
            have hy7 : w1.heap.size < w7.heap.size := by omega
            obtain ⟨hc7, hf7⟩ := bcell B7
            obtain ⟨a0, a1, a2, a3, a4, a5, a6⟩ := kindsA_all k hk9
            have i0 : (0 : Int) ≤ (k : Int) := by omega
            have i1 : (k : Int) < 9 := by omega
            go_wp2_with fail
            go_returns
            exact ⟨rfl, (next1 B1 B7).alloc (next1 B1 B7).size _⟩
  · have hsz' : 30 < nm.size := by omega
    clear hsz
    go_enter Try.func10, Try.ntmps10
    go_wp2_with fail
    refine (known_any _).mono ?_
    rintro e w1 ⟨rfl, B1⟩
    go_wp2_with fail
    generalize nm.extract 0 30 = s
    obtain ⟨F, hF⟩ := only_any s
    have HF := Lib.hid hF
    have hF9 := hF.1
    clear hF
    refine (clefs_any _).mono ?_
    rintro e w2 ⟨rfl, rfl⟩
    go_wp2_with fail
    go_loop [5, 7] (fun v i => ∃ k : Nat, k ≤ 9 ∧ i = .int .i64 (k : Int) ∧ v = .int .i64 (if F < k then (F : Int) + 1 else 0)) (fun _ i => 9 - (intOf i).toNat)
    case atStart => exact ⟨0, by omega, rfl, rfl⟩
    case round =>
      obtain ⟨k, hk, rfl, rfl⟩ := hrel
      by_cases hlt : k < 9
      · obtain ⟨a0, a1, a2, a3, a4, a5, a6⟩ := kindsA_all k hlt
        clear a1 a2 a3 a4 a5 a6
        have i0 : (0 : Int) ≤ (k : Int) := by omega
        have i1 : (k : Int) < 9 := by omega
        by_cases he : kName ((k : Int) + 1) = s
        · obtain rfl : k = F := (HF.out.2 k hlt).1 he
          go_wp2
          go_round
          case rel => exact ⟨k + 1, by omega, by go_num, by rw [if_pos (by omega)]⟩
          case measure => simp [intOf]; omega
        · have hne : k ≠ F := fun e => he ((HF.out.2 k hlt).2 e)
          have hs2 := str_ne he
          clear he
          generalize kName ((k : Int) + 1) = s1 at *
          go_wp2
          go_round
          case rel => exact ⟨k + 1, by omega, by go_num, by by_cases h : F < k <;> simp [h] <;> omega⟩
          case measure => simp [intOf]; omega
      · obtain rfl : k = 9 := by omega
        by_cases hf : F < 9
        · rw [if_pos hf]
          go_wp2_with fail
          refine (find_any _ F _ HF.out).mono ?_
          rw [if_pos hf, if_pos hf]
          rintro e w3 ⟨rfl, b3⟩
          have B3 := b3
          by_cases hc : c < 1 ∨ 9 < c
          · skip
            go_wp2_with fail
            refine (name_bad _ _ hc).mono ?_
            rintro e w4 ⟨rfl, b4⟩
            have B4 := next0 B3 b4
            go_wp2_with fail
            refine (sign_bad _ _ hc).mono ?_
            rintro e w5 ⟨rfl, b5⟩
            have B5 := next0 B4 b5
            go_wp2_with fail
            refine (valid_bad _ _ hc).mono ?_
            rintro e w6 ⟨rfl, b6⟩
            have B6 := next0 B5 b6
            go_wp2_with fail
            go_returns
            exact ⟨rfl, next1 B1 B6⟩
          · obtain ⟨k, rfl⟩ : ∃ k : Nat, c = (k : Int) + 1 := ⟨(c - 1).toNat, by omega⟩
            have hk9 : k < 9 := by omega
            have c1 : (1 : Int) ≤ (k : Int) + 1 := by omega
            have c9 : (k : Int) + 1 ≤ 9 := by omega
            clear hc
            go_wp2_with fail
            refine (name_ok _ _ c1 c9).mono ?_
            rintro e w4 ⟨rfl, b4⟩
            have B4 := next0 B3 b4
            go_wp2_with fail
            refine (sign_ok _ _ c1 c9).mono ?_
            rintro e w5 ⟨rfl, b5⟩
            have B5 := next0 B4 b5
            go_wp2_with fail
            refine (valid_ok _ _ c1 c9).mono ?_
            rintro e w6 ⟨rfl, b6⟩
            have B6 := next0 B5 b6
            go_wp2_with fail
            refine (find_any _ k _ (only_name k hk9)).mono ?_
            rw [if_pos hk9, if_pos hk9]
            rintro e w7 ⟨rfl, b7⟩
            have B7 := next0 B6 b7
            have hz7 := B7.size
            simp only [World.size_alloc] at hz7
            have hy7 : w1.heap.size < w7.heap.size := by omega
            obtain ⟨hc7, hf7⟩ := bcell B7
            obtain ⟨a0, a1, a2, a3, a4, a5, a6⟩ := kindsA_all k hk9
            have i0 : (0 : Int) ≤ (k : Int) := by omega
            have i1 : (k : Int) < 9 := by omega
            go_wp2_with fail
            go_returns
            exact ⟨rfl, (next1 B1 B7).alloc (next1 B1 B7).size _⟩
        · rw [if_neg hf]
          go_wp2_with fail
          refine (find_any _ F _ HF.out).mono ?_
          rw [if_neg hf, if_neg hf]
          rintro e w3 ⟨rfl, b3⟩
          have B3 := b3
          by_cases hc : c < 1 ∨ 9 < c
          · skip
            go_wp2_with fail
            refine (name_bad _ _ hc).mono ?_
            rintro e w4 ⟨rfl, b4⟩
            have B4 := next0 B3 b4
            go_wp2_with fail
            refine (sign_bad _ _ hc).mono ?_
            rintro e w5 ⟨rfl, b5⟩
            have B5 := next0 B4 b5
            go_wp2_with fail
            refine (valid_bad _ _ hc).mono ?_
            rintro e w6 ⟨rfl, b6⟩
            have B6 := next0 B5 b6
            go_wp2_with fail
            go_returns
            exact ⟨rfl, next1 B1 B6⟩
          · obtain ⟨k, rfl⟩ : ∃ k : Nat, c = (k : Int) + 1 := ⟨(c - 1).toNat, by omega⟩
            have hk9 : k < 9 := by omega
            have c1 : (1 : Int) ≤ (k : Int) + 1 := by omega
            have c9 : (k : Int) + 1 ≤ 9 := by omega
            clear hc
            go_wp2_with fail
            refine (name_ok _ _ c1 c9).mono ?_
            rintro e w4 ⟨rfl, b4⟩
            have B4 := next0 B3 b4
            go_wp2_with fail
            refine (sign_ok _ _ c1 c9).mono ?_
            rintro e w5 ⟨rfl, b5⟩
            have B5 := next0 B4 b5
            go_wp2_with fail
            refine (valid_ok _ _ c1 c9).mono ?_
            rintro e w6 ⟨rfl, b6⟩
            have B6 := next0 B5 b6
            go_wp2_with fail
            refine (find_any _ k _ (only_name k hk9)).mono ?_
            rw [if_pos hk9, if_pos hk9]
            rintro e w7 ⟨rfl, b7⟩
            have B7 := next0 B6 b7
            have hz7 := B7.size
            simp only [World.size_alloc] at hz7
            have hy7 : w1.heap.size < w7.heap.size := by omega
            obtain ⟨hc7, hf7⟩ := bcell B7
            obtain ⟨a0, a1, a2, a3, a4, a5, a6⟩ := kindsA_all k hk9
            have i0 : (0 : Int) ≤ (k : Int) := by omega
            have i1 : (k : Int) < 9 := by omega
            go_wp2_with fail
            go_returns
            exact ⟨rfl, (next1 B1 B7).alloc (next1 B1 B7).size _⟩
end Go.Proofs.Ytdleefphgjnhjaa
