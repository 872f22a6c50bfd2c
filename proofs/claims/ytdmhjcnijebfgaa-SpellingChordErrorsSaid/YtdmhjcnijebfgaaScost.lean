/- The closures of Spell; choices of package spelling: contracts. -/
import Derived.Test.YtdmhjcnijebfgaaSnext
namespace Go.Proofs.Ytdmhjcnijebfgaa
open Go.RowKit
set_option linter.unusedVariables false

theorem later_old {w : World} {o : Obj} {b i : Nat} {v : Value} (h : w.cell? ⟨b, i, none⟩ = some v) (hb : b < w.heap.size) : ∀ s : Later (w.alloc o).heap.size (w.alloc o), s.w.cell? ⟨b, i, none⟩ = some v := fun s =>
  later_cell ((((Below.refl _ w).alloc (Nat.le_refl _) o).cell (p := ⟨b, i, none⟩) hb).trans h) (by rw [World.size_alloc]; show b < _; omega) s
/-- The first closure: the distance from a pitch that it holds. -/
theorem spell1_any (b : Nat) (s al o s' al' o' : Int) (w : World) (h : okP s al o) (h' : okP s' al' o') (hlt : b < w.heap.size) (c0 : w.cell? ⟨b, 0, none⟩ = some (.int .i64 s)) (c1 : w.cell? ⟨b, 1, none⟩ = some (.int .i64 al)) (c2 : w.cell? ⟨b, 2, none⟩ = some (.int .i64 o)) :
    Calls Try.prog 31 #[.agg #[.int .i64 s', .int .i64 al', .int .i64 o'], .pointer (some ⟨b, 0, none⟩)] w fun e w' => e = .returned (.int .i64 (dQ (s, al, o) (s', al', o'))) ∧ Below w.heap.size w w' := by
  obtain ⟨d0, d1⟩ := d_bd (p := (s, al, o)) (q := (s', al', o')) h h'
  go_enter Try.func31, Try.ntmps31
  go_wp2_with (go_at_call 32; refine (distance_any _ _ _ _ _ _ _ h h').mono ?_; rintro e w1 ⟨rfl, hb⟩)
  go_returns
  exact ⟨rfl, base1 hb⟩
/-- The second closure, at the first pitch: nothing. -/
theorem spell2_zero (bi bo : Nat) (s' al' o' : Int) (w : World) (hlt : bi < w.heap.size) (c0 : w.cell? ⟨bi, 0, none⟩ = some (.int .i64 0)) :
    Calls Try.prog 33 #[.agg #[.int .i64 s', .int .i64 al', .int .i64 o'], .pointer (some ⟨bi, 0, none⟩), .pointer (some ⟨bo, 0, none⟩)] w fun e w' => e = .returned (.int .i64 0) ∧ Below w.heap.size w w' := by
  go_enter Try.func33, Try.ntmps33
  go_wp2
  go_returns
  exact ⟨rfl, by go_grown⟩
/-- The second closure behind a pitch: the distance from the one before. -/
theorem spell2_pos (bi bo b off n c : Nat) (k : Nat) (s al o s' al' o' : Int) (w : World) (h : okP s al o) (h' : okP s' al' o') (hk0 : 0 < k) (hkn : k ≤ n) (hn : n ≤ 100000) (hlt : bi < w.heap.size) (hlo : bo < w.heap.size) (hlb : b < w.heap.size)
    (ci : w.cell? ⟨bi, 0, none⟩ = some (.int .i64 (k : Int))) (co : w.cell? ⟨bo, 0, none⟩ = some (.slice (some ⟨b, off, none⟩) n c))
    (c0 : w.cell? ⟨b, off + (k - 1) * 3, none⟩ = some (.int .i64 s)) (c1 : w.cell? ⟨b, off + (k - 1) * 3 + 1, none⟩ = some (.int .i64 al)) (c2 : w.cell? ⟨b, off + (k - 1) * 3 + 2, none⟩ = some (.int .i64 o)) :
    Calls Try.prog 33 #[.agg #[.int .i64 s', .int .i64 al', .int .i64 o'], .pointer (some ⟨bi, 0, none⟩), .pointer (some ⟨bo, 0, none⟩)] w fun e w' => e = .returned (.int .i64 (dQ (s, al, o) (s', al', o'))) ∧ Below w.heap.size w w' := by
  obtain ⟨d0, d1⟩ := d_bd (p := (s, al, o)) (q := (s', al', o')) h h'
  obtain ⟨m, rfl⟩ : ∃ m, k = m + 1 := ⟨k - 1, by omega⟩
  rw [Nat.add_sub_cancel] at c0 c1 c2
  have k1 : ((m + 1 : Nat) : Int) = (m : Int) + 1 := by omega
  rw [k1] at ci
  have k2 : ((m : Int) + 1 == 0) = false := by rw [beq_eq_false_iff_ne]; omega
  clear hk0 k1
  go_enter Try.func33, Try.ntmps33
  go_wp2
  have f0 := later_old (o := .cells #[.int .i64 s', .int .i64 al', .int .i64 o'] PIT) ci hlt
  have f1 := later_old (o := .cells #[.int .i64 s', .int .i64 al', .int .i64 o'] PIT) co hlo
  have f2 := later_old (o := .cells #[.int .i64 s', .int .i64 al', .int .i64 o'] PIT) c0 hlb
  have f3 := later_old (o := .cells #[.int .i64 s', .int .i64 al', .int .i64 o'] PIT) c1 hlb
  have f4 := later_old (o := .cells #[.int .i64 s', .int .i64 al', .int .i64 o'] PIT) c2 hlb
  obtain ⟨g0, g1, g2⟩ := later_box3 w (.int .i64 s') (.int .i64 al') (.int .i64 o') PIT
  have i0 : (0 : Int) ≤ (m : Int) := by omega
  have i1 : (m : Int) < (n : Int) := by omega
  have i2 : IntKind.i64.wrap ((m : Int) + 1 - 1) = (m : Int) := by rw [show (m : Int) + 1 - 1 = (m : Int) from by omega]; exact IntWalk.i64_in _ (by omega)
  have i3 : IntKind.i64.wrap (1 * dQ (s, al, o) (s', al', o')) = dQ (s, al, o) (s', al', o') := by rw [Int.one_mul]; exact IntWalk.i64_in _ (by omega)
  have i4 : IntKind.i64.wrap (dQ (s, al, o) (s', al', o')) = dQ (s, al, o) (s', al', o') := IntWalk.i64_in _ (by omega)
  clear ci co c0 c1 c2
  refine wp_region_later (by kernel_rfl) (by kernel_rfl) ?_
  repeat (go_big_quiet_step ((go_at_call 32; exact later_calls (Nat.le_refl _) (distance_any _ _ _ _ _ _ _ h h'))))
  refine wpQuiet_nil ?_
  intro w1 hb1
  clear f0 f1 f2 f3 f4 g0 g1 g2
  go_wp2
  go_returns
  exact ⟨rfl, base1 hb1⟩
end Go.Proofs.Ytdmhjcnijebfgaa
