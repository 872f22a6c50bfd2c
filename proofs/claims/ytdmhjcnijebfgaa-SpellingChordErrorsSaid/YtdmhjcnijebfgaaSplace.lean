/- The places, the costs and the guard of package spelling: contracts. -/
import Derived.Test.YtdmhjcnijebfgaaSenh
namespace Go.Proofs.Ytdmhjcnijebfgaa
open Go.RowKit
set_option linter.unusedVariables false

theorem place_any (s al o : Int) (w : World) (h : okP s al o) :
    Calls Try.prog 47 #[.agg #[.int .i64 s, .int .i64 al, .int .i64 o]] w fun e w' => e = .returned (.int .i64 (fif s al)) ∧ Below w.heap.size w w' := by
  go_enter Try.func47, Try.ntmps47
  go_wp2_with (go_at_call 52; refine (pfifths_ok _ _ _ _ h).mono ?_; rintro e w1 ⟨rfl, hb⟩)
  go_returns
  exact ⟨rfl, base1 hb⟩
theorem outside_any (s al o f : Int) (w : World) (h : okP s al o) (hf : -7 ≤ f) (hf' : f ≤ 7) :
    Calls Try.prog 29 #[.agg #[.int .i64 s, .int .i64 al, .int .i64 o], .int .i64 f] w fun e w' => e = .returned (.int .i64 (outQ f (s, al, o))) ∧ Below w.heap.size w w' := by
  obtain ⟨b0, b1⟩ := fif_bd h
  have hcase : (fif s al < f - 1 ∧ fif s al - f - 5 ≤ f - 1 - fif s al ∧ outQ f (s, al, o) = f - 1 - fif s al) ∨ (f - 1 ≤ fif s al ∧ 0 < fif s al - f - 5 ∧ outQ f (s, al, o) = fif s al - f - 5) ∨ (f - 1 ≤ fif s al ∧ fif s al - f - 5 ≤ 0 ∧ outQ f (s, al, o) = 0) := by
    unfold outQ fifQ
    dsimp only
    omega
  rcases hcase with ⟨h1, h2, h3⟩ | ⟨h1, h2, h3⟩ | ⟨h1, h2, h3⟩
  all_goals
    rw [h3]
    clear h3
    go_enter Try.func29, Try.ntmps29
    go_wp2_with (go_at_call 47; refine (place_any _ _ _ _ h).mono ?_; rintro e w1 ⟨rfl, hb⟩)
    go_returns
    exact ⟨rfl, base1 hb⟩
theorem distance_any (s al o s' al' o' : Int) (w : World) (h : okP s al o) (h' : okP s' al' o') :
    Calls Try.prog 32 #[.agg #[.int .i64 s, .int .i64 al, .int .i64 o], .agg #[.int .i64 s', .int .i64 al', .int .i64 o']] w fun e w' => e = .returned (.int .i64 (dQ (s, al, o) (s', al', o'))) ∧ Below w.heap.size w w' := by
  obtain ⟨b0, b1⟩ := fif_bd h
  obtain ⟨b0', b1'⟩ := fif_bd h'
  go_enter Try.func32, Try.ntmps32
  go_wp2
  refine wp_region_later (by kernel_rfl) (by kernel_rfl) ?_
  generalize hW : (w.alloc (Obj.cells #[.int .i64 s, .int .i64 al, .int .i64 o] 35)) = W0
  have z0 : W0.heap.size = w.heap.size + 1 := by rw [← hW]; simp
  have hB0 : Below w.heap.size w W0 := by rw [← hW]; exact (Below.refl _ w).alloc (Nat.le_refl _) _
  have q0 : W0.cell? ⟨w.heap.size, 0, none⟩ = some (.int .i64 s) := by rw [← hW]; simp
  have q1 : W0.cell? ⟨w.heap.size, 1, none⟩ = some (.int .i64 al) := by rw [← hW]; simp
  have q2 : W0.cell? ⟨w.heap.size, 2, none⟩ = some (.int .i64 o) := by rw [← hW]; simp
  obtain ⟨c0, c1, c2⟩ := later_box3 W0 (.int .i64 s') (.int .i64 al') (.int .i64 o') 35
  rw [z0] at c0 c1 c2
  have hbw : Below W0.heap.size W0 (W0.alloc (Obj.cells #[.int .i64 s', .int .i64 al', .int .i64 o'] 35)) := (Below.refl _ W0).alloc (Nat.le_refl _) _
  have d0 : ∀ s_1 : Later (W0.alloc (Obj.cells #[.int .i64 s', .int .i64 al', .int .i64 o'] 35)).heap.size (W0.alloc (Obj.cells #[.int .i64 s', .int .i64 al', .int .i64 o'] 35)), s_1.w.cell? ⟨w.heap.size, 0, none⟩ = some (.int .i64 s) := fun s_1 => later_cell ((hbw.cell (p := ⟨w.heap.size, 0, none⟩) (by rw [z0]; exact Nat.lt_succ_self _)).trans q0) (by simp [z0]; omega) s_1
  have d1 : ∀ s_1 : Later (W0.alloc (Obj.cells #[.int .i64 s', .int .i64 al', .int .i64 o'] 35)).heap.size (W0.alloc (Obj.cells #[.int .i64 s', .int .i64 al', .int .i64 o'] 35)), s_1.w.cell? ⟨w.heap.size, 1, none⟩ = some (.int .i64 al) := fun s_1 => later_cell ((hbw.cell (p := ⟨w.heap.size, 1, none⟩) (by rw [z0]; exact Nat.lt_succ_self _)).trans q1) (by simp [z0]; omega) s_1
  have d2 : ∀ s_1 : Later (W0.alloc (Obj.cells #[.int .i64 s', .int .i64 al', .int .i64 o'] 35)).heap.size (W0.alloc (Obj.cells #[.int .i64 s', .int .i64 al', .int .i64 o'] 35)), s_1.w.cell? ⟨w.heap.size, 2, none⟩ = some (.int .i64 o) := fun s_1 => later_cell ((hbw.cell (p := ⟨w.heap.size, 2, none⟩) (by rw [z0]; exact Nat.lt_succ_self _)).trans q2) (by simp [z0]; omega) s_1
  clear q0 q1 q2
  repeat (go_big_quiet_step ((go_at_call 47; first | exact later_calls (Nat.le_refl _) (place_any _ _ _ _ h) | exact later_calls (Nat.le_refl _) (place_any _ _ _ _ h'))))
  refine wpQuiet_nil ?_
  intro w1 hb1
  clear c0 c1 c2 d0 d1 d2
  rcases Int.lt_or_le (fif s al - fif s' al') 0 with h3 | h3
  · have e3 : dQ (s, al, o) (s', al', o') = -(fif s al - fif s' al') := by unfold dQ fifQ; dsimp only; omega
    have E3 := Lib.hid e3
    clear e3
    go_wp2
    go_returns
    exact ⟨by rw [E3.out]; rfl, hB0.trans ((next1 (Below.refl _ _) hb1).mono hB0.size)⟩
  · have e3 : dQ (s, al, o) (s', al', o') = fif s al - fif s' al' := by unfold dQ fifQ; dsimp only; omega
    have E3 := Lib.hid e3
    clear e3
    go_wp2
    go_returns
    exact ⟨by rw [E3.out]; rfl, hB0.trans ((next1 (Below.refl _ _) hb1).mono hB0.size)⟩
theorem guard_bad (f n m : Int) (w : World) (h : f < -7 ∨ 7 < f) :
    Calls Try.prog 27 #[.int .i64 f, .int .i64 n, .int .i64 m] w fun e w' => e = .returned (.int .i64 2) ∧ Below w.heap.size w w' := by
  rcases h with h | h
  · go_enter Try.func27, Try.ntmps27
    go_wp2
    go_returns
    exact ⟨rfl, by go_grown⟩
  · have h1 : ¬ f < -7 := by omega
    go_enter Try.func27, Try.ntmps27
    go_wp2
    go_returns
    exact ⟨rfl, by go_grown⟩
theorem guard_long (f n m : Int) (w : World) (h0 : -7 ≤ f) (h1 : f ≤ 7) (h : m < n) :
    Calls Try.prog 27 #[.int .i64 f, .int .i64 n, .int .i64 m] w fun e w' => e = .returned (.int .i64 9) ∧ Below w.heap.size w w' := by
  go_enter Try.func27, Try.ntmps27
  go_wp2
  go_returns
  exact ⟨rfl, by go_grown⟩
theorem guard_ok (f n m : Int) (w : World) (h0 : -7 ≤ f) (h1 : f ≤ 7) (h : n ≤ m) :
    Calls Try.prog 27 #[.int .i64 f, .int .i64 n, .int .i64 m] w fun e w' => e = .returned (.int .i64 0) ∧ Below w.heap.size w w' := by
  go_enter Try.func27, Try.ntmps27
  go_wp2
  go_returns
  exact ⟨rfl, by go_grown⟩
end Go.Proofs.Ytdmhjcnijebfgaa
