/- Name, Sign, Find of package clef: contracts. -/
import Derived.Test.YtdleefphgjnhjaaClef
namespace Go.Proofs.Ytdleefphgjnhjaa
open Go.RowKit
set_option linter.unusedVariables false

theorem name_ok (c : Int) (w : World) (h1 : 1 ≤ c) (h9 : c ≤ 9) :
    Calls Try.prog 29 #[.int .i64 c] w fun e w' => e = .returned (.tuple #[.string (kName c), .int .i64 0]) ∧ Below w.heap.size w w' := by
  go_enter Try.func29, Try.ntmps29
  go_wp2_with (go_at_call 33; refine (of_ok _ _ h1 h9).mono ?_; rintro e w1 ⟨rfl, hb⟩; have hz := hb.size)
  go_returns
  exact ⟨rfl, by go_grown⟩
theorem name_bad (c : Int) (w : World) (h : c < 1 ∨ 9 < c) :
    Calls Try.prog 29 #[.int .i64 c] w fun e w' => e = .returned (.tuple #[.string ⟨#[]⟩, .int .i64 11]) ∧ Below w.heap.size w w' := by
  go_enter Try.func29, Try.ntmps29
  go_wp2_with (go_at_call 33; refine (of_bad _ _ h).mono ?_; rintro e w1 ⟨rfl, hb⟩; have hz := hb.size)
  go_returns
  exact ⟨rfl, by go_grown⟩
theorem results_tmp4 {fn : Func} {t u v x : Tmp} (h : fn.results = #[.tmp t, .tmp u, .tmp v, .tmp x]) (tmps : Array Value) (P : Program) (w : World) :
    (results fn tmps).run P w = .ok (.tuple #[tmps.getD t undef, tmps.getD u undef, tmps.getD v undef, tmps.getD x undef]) w := by simp [results, h]
theorem sign_ok (c : Int) (w : World) (h1 : 1 ≤ c) (h9 : c ≤ 9) :
    Calls Try.prog 30 #[.int .i64 c] w fun e w' => e = .returned (.tuple #[.int .u8 (kLetter c), .int .i64 (kLine c), .int .i64 (kOct c), .int .i64 0]) ∧ Below w.heap.size w w' := by
  go_enter Try.func30, Try.ntmps30
  go_wp2_with (go_at_call 33; refine (of_ok _ _ h1 h9).mono ?_; rintro e w1 ⟨rfl, hb⟩; have hz := hb.size)
  go_quiet (fail)
  go_wp2
  refine bodyPost_ret (results_tmp4 rfl _ _ _) rfl ?_
  exact ⟨rfl, below_dn (by go_grown) _⟩
theorem sign_bad (c : Int) (w : World) (h : c < 1 ∨ 9 < c) :
    Calls Try.prog 30 #[.int .i64 c] w fun e w' => e = .returned (.tuple #[.int .u8 0, .int .i64 0, .int .i64 0, .int .i64 11]) ∧ Below w.heap.size w w' := by
  go_enter Try.func30, Try.ntmps30
  go_wp2_with (go_at_call 33; refine (of_bad _ _ h).mono ?_; rintro e w1 ⟨rfl, hb⟩; have hz := hb.size)
  go_quiet (fail)
  go_wp2
  refine bodyPost_ret (results_tmp4 rfl _ _ _) rfl ?_
  exact ⟨rfl, below_dn (by go_grown) _⟩

theorem kinds_index' (k : Nat) (hk : k < 9) (w : World) : (Instr.index 68 (.agg kindsA) (.int .i64 (k : Int))).run Try.prog w =
    .ok (.agg #[.string (kName ((k : Int) + 1)), .int .u8 (kLetter ((k : Int) + 1)), .int .i64 (kLine ((k : Int) + 1)), .int .i64 (kOct ((k : Int) + 1)), .int .i64 (kMid ((k : Int) + 1)), .int .i64 (kSharps ((k : Int) + 1)), .int .i64 (kFlats ((k : Int) + 1))]) w := by
  have h := kinds_index ((k : Int) + 1) (by omega) (by omega) w
  rw [show (k : Int) + 1 - 1 = k from by omega] at h
  exact h

theorem str_ne {a b : ByteArray} (h : a ≠ b) : (a.toList == b.toList) = false := by
  rw [beq_eq_false_iff_ne]
  intro e
  rw [ByteArray.toList_eq, ByteArray.toList_eq] at e
  exact h (ByteArray.ext (Array.ext' e))
theorem str_eq (a : ByteArray) : (a.toList == a.toList) = true := by simp

/-- F is the number of the only clef with this name (9: there is none). -/
def Only (nm : ByteArray) (F : Nat) : Prop := F ≤ 9 ∧ ∀ i : Nat, i < 9 → (kName ((i : Int) + 1) = nm ↔ i = F)

theorem find_any (nm : ByteArray) (F : Nat) (w : World) (hF : Only nm F) :
    Calls Try.prog 28 #[.string nm] w fun e w' => e = .returned (.tuple #[.int .i64 (if F < 9 then (F : Int) + 1 else 0), .int .i64 (if F < 9 then 0 else 8)]) ∧ Below w.heap.size w w' := by
  obtain ⟨hF9, hF⟩ := hF
  have HF := Lib.hid hF
  clear hF
  go_enter Try.func28, Try.ntmps28
  go_wp2_with (go_at_call 37; refine (kinds_any _).mono ?_; rintro e w1 ⟨rfl, hb⟩)
  go_loopw [7] (fun i wr => ∃ k : Nat, k ≤ 9 ∧ k ≤ F ∧ i = .int .i64 (k : Int) ∧ Below w.heap.size w wr) (fun i _ => 9 - (intOf i).toNat)
  case atStart => exact ⟨0, by omega, by omega, rfl, hb⟩
  case round =>
    obtain ⟨k, hk, hkF, rfl, hbr⟩ := hrel
    by_cases hlt : k < 9
    · have hi := kinds_index' k hlt
      have i1 : (k : Int) < 9 := by omega
      have hzr := hbr.size
      by_cases he : kName ((k : Int) + 1) = nm
      · obtain rfl : k = F := (HF.out k hlt).1 he
        have hF9' : k < 9 := hlt
        go_wp2
        go_returns
        exact ⟨rfl, hbr.alloc (by omega) _⟩
      · have hne : k ≠ F := fun e => he ((HF.out k hlt).2 e)
        have hs2 := str_ne he
        clear he
        generalize kName ((k : Int) + 1) = s at *
        go_wp2
        go_roundw
        case rel => exact ⟨k + 1, by omega, by omega, by go_num, hbr.alloc (by omega) _⟩
        case measure => simp [intOf]; omega
    · obtain rfl : k = 9 := by omega
      obtain rfl : F = 9 := by omega
      go_wp2
      go_returns
      exact ⟨rfl, hbr⟩
end Go.Proofs.Ytdleefphgjnhjaa
