/- Files and journals that are nil: contracts. -/
import Derived.Test.YthfnpakddnnccaaFile4
import Derived.Defers
import Derived.Test.YthfnpakddnnccaaFound
namespace Go.Proofs.Ythfnpakddnnccaa
open Go.RowKit
set_option linter.unusedVariables false

theorem nil_append (t : ByteArray) (w : World) : Calls Try.prog 38 #[.pointer none, .string t] w fun e w' => e = .returned (.int .i64 1) ∧ Below w.heap.size w w' := by
  go_enter Try.func38, Try.ntmps38
  go_wp2
  go_returns
  exact ⟨rfl, Below.refl _ _⟩
theorem nil_restart (k d : Int) (w : World) : Calls Try.prog 31 #[.pointer none, .int .i64 k, .int .u8 d] w fun e w' => e = .returned (.int .i64 1) ∧ Below w.heap.size w w' := by
  go_enter Try.func31, Try.ntmps31
  go_wp2
  go_returns
  exact ⟨rfl, Below.refl _ _⟩
theorem nil_ready (w : World) : Calls Try.prog 48 #[.pointer none] w fun e w' => e = .returned (.int .i64 1) ∧ w' = w := by
  go_enter Try.func48, Try.ntmps48
  go_wp2
  go_returns
  exact ⟨rfl, rfl⟩
theorem nil_jready (w : World) : Calls Try.prog 51 #[.pointer none] w fun e w' => e = .returned (.int .i64 1) ∧ w' = w := by
  go_enter Try.func51, Try.ntmps51
  go_wp2
  go_returns
  exact ⟨rfl, rfl⟩
theorem nil_open (w : World) : Calls Try.prog 24 #[.pointer none] w fun e w' => e = .returned (.tuple #[.pointer none, .int .i64 1]) ∧ Below w.heap.size w w' := by
  refine (callsIn_wide (n := 3)).1 ?_
  refine callsIn_of_wp_marks Try.func24 rfl trivial ?_ rfl
  simp only [Try.ntmps24, List.size_toArray, List.length_cons, List.length_nil, Nat.reduceAdd, Nat.reduceSub, Array.replicate_succ, Array.replicate_zero, List.push_toArray, List.append_toArray, List.nil_append, List.cons_append]
  gi_wp2_with (refine ⟨trivial, ?_⟩; gi_at_call 48; refine (callsIn_wide.2 (nil_ready _)).mono ?_; rintro e w1 ⟨rfl, rfl⟩)
  exact ⟨.tuple #[.pointer none, .int .i64 1], by simp [results, Try.results24, go_sem], rfl, Below.refl _ _⟩
theorem nil_jappend (t : ByteArray) (w : World) : Calls Try.prog 27 #[.pointer none, .string t] w fun e w' => e = .returned (.tuple #[.int .i64 0, .int .i64 1]) ∧ Below w.heap.size w w' := by
  go_enter_defers Try.func27, Try.ntmps27
  go_wp2_with (go_at_call 51; refine (nil_jready _).mono ?_; rintro e w1 ⟨rfl, rfl⟩)
  simp [bodyPostD, Leaves, results, Try.results27, go_sem]
  go_grown
theorem nil_jsync (w : World) : Calls Try.prog 28 #[.pointer none] w fun e w' => e = .returned (.int .i64 1) ∧ Below w.heap.size w w' := by
  go_enter_defers Try.func28, Try.ntmps28
  go_wp2_with (go_at_call 51; refine (nil_jready _).mono ?_; rintro e w1 ⟨rfl, rfl⟩)
  simp [bodyPostD, Leaves, results, Try.results28, go_sem]
  go_grown
theorem nil_get (n : Int) (w : World) : Calls Try.prog 39 #[.pointer none, .int .i64 n] w fun e w' => e = .returned (.tuple #[.string ⟨#[]⟩, .int .i64 1]) ∧ Below w.heap.size w w' := by
  go_enter Try.func39, Try.ntmps39
  go_wp2
  go_returns
  exact ⟨rfl, Below.refl _ _⟩
theorem nil_bytes (w : World) : Calls Try.prog 41 #[.pointer none] w fun e w' => e = .returned (.string ⟨#[]⟩) ∧ Below w.heap.size w w' := by
  go_enter Try.func41, Try.ntmps41
  go_wp2
  go_returns
  exact ⟨rfl, Below.refl _ _⟩
theorem nil_synced (w : World) : Calls Try.prog 42 #[.pointer none] w fun e w' => e = .returned (.int .i64 0) ∧ Below w.heap.size w w' := by
  go_enter Try.func42, Try.ntmps42
  go_wp2
  go_returns
  exact ⟨rfl, Below.refl _ _⟩
theorem nil_down (w : World) : Calls Try.prog 26 #[.pointer none] w fun e w' => e = .returned (.bool false) ∧ Below w.heap.size w w' := by
  go_enter Try.func26, Try.ntmps26
  go_wp2
  go_returns
  exact ⟨rfl, Below.refl _ _⟩
theorem nil_clone (w : World) : Calls Try.prog 36 #[.pointer none] w fun e w' => e = .returned (.pointer none) ∧ Below w.heap.size w w' := by
  go_enter Try.func36, Try.ntmps36
  go_wp2
  go_returns
  exact ⟨rfl, Below.refl _ _⟩
theorem nil_equal (w : World) : Calls Try.prog 37 #[.pointer none, .pointer none] w fun e w' => e = .returned (.bool true) ∧ Below w.heap.size w w' := by
  go_enter Try.func37, Try.ntmps37
  go_wp2
  go_returns
  exact ⟨rfl, Below.refl _ _⟩
theorem nil_equal2 (a : Addr) (w : World) : Calls Try.prog 37 #[.pointer none, .pointer (some a)] w fun e w' => e = .returned (.bool false) ∧ Below w.heap.size w w' := by
  have hq : ∀ w : World, (binOp .eql 43 (.pointer none) (.pointer (some a))).run Try.prog w = .ok (.bool false) w := fun w => rfl
  go_enter Try.func37, Try.ntmps37
  go_wp2
  go_returns
  exact ⟨rfl, Below.refl _ _⟩
theorem nil_len (w : World) : Calls Try.prog 32 #[.pointer none] w fun e w' => e = .returned (.int .i64 0) ∧ Below w.heap.size w w' := by
  go_enter Try.func32, Try.ntmps32
  go_wp2
  go_returns
  exact ⟨rfl, Below.refl _ _⟩
theorem nil_all (w : World) : Calls Try.prog 34 #[.pointer none] w fun e w' => e = .returned (.slice none 0 0) ∧ Below w.heap.size w w' := by
  go_enter Try.func34, Try.ntmps34
  go_wp2
  go_returns
  exact ⟨rfl, Below.refl _ _⟩
theorem nil_durable (w : World) : Calls Try.prog 29 #[.pointer none] w fun e w' => e = .returned (.int .i64 0) ∧ Below w.heap.size w w' := by
  go_enter Try.func29, Try.ntmps29
  go_wp2
  go_loopw [3] (fun i wr => i = .int .i64 0 ∧ Below w.heap.size w wr) (fun _ _ => 0)
  case atStart => exact ⟨rfl, Below.refl _ _⟩
  case round =>
    obtain ⟨rfl, hb⟩ := hrel
    go_wp2_with fail
    refine wp_region_later (by kernel_rfl) (by kernel_rfl) ?_
    repeat (go_big_quiet_step ((go_at_call 32; exact later_calls (Nat.le_refl _) (nil_len _))))
    refine wpQuiet_nil ?_
    intro w1 hb1
    go_wp2_with fail
    go_returns
    exact ⟨rfl, hb.trans (hb1.mono hb.size)⟩
end Go.Proofs.Ythfnpakddnnccaa
