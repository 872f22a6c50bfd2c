/- What package pitch computes: semitones, fifths, number, Check, floor, Fifths: contracts. -/
import Derived.Test.YtdmhjcnijebfgaaKit
import Derived.Test.YtdmhjcnijebfgaaSm
import Derived.Test.YtdmhjcnijebfgaaProg
namespace Go.Proofs.Ytdmhjcnijebfgaa
open Go.RowKit
set_option linter.unusedVariables false

def pitchV (p : Pit) : Value := .agg #[.int .i64 p.1, .int .i64 p.2.1, .int .i64 p.2.2]

theorem semitones_any (w : World) : Calls Try.prog 51 #[] w fun e w' => e = .returned (.agg #[.int .i64 0, .int .i64 2, .int .i64 4, .int .i64 5, .int .i64 7, .int .i64 9, .int .i64 11]) ∧ Below w.heap.size w w' := by
  go_enter Try.func51, Try.ntmps51
  go_wp2
  go_returns
  exact ⟨rfl, by go_grown⟩
theorem fifths_any (w : World) : Calls Try.prog 53 #[] w fun e w' => e = .returned (.agg #[.int .i64 0, .int .i64 2, .int .i64 4, .int .i64 (-1), .int .i64 1, .int .i64 3, .int .i64 5]) ∧ Below w.heap.size w w' := by
  go_enter Try.func53, Try.ntmps53
  go_wp2
  go_returns
  exact ⟨rfl, by go_grown⟩

theorem semi_index (s : Int) (h0 : 0 ≤ s) (h6 : s ≤ 6) (w : World) : (Instr.index 63 (.agg #[.int .i64 0, .int .i64 2, .int .i64 4, .int .i64 5, .int .i64 7, .int .i64 9, .int .i64 11]) (.int .i64 s)).run Try.prog w = .ok (.int .i64 (semi s)) w := by
  rcases cases7 h0 h6 with rfl | rfl | rfl | rfl | rfl | rfl | rfl <;> rfl
theorem fifS_index (s : Int) (h0 : 0 ≤ s) (h6 : s ≤ 6) (w : World) : (Instr.index 63 (.agg #[.int .i64 0, .int .i64 2, .int .i64 4, .int .i64 (-1), .int .i64 1, .int .i64 3, .int .i64 5]) (.int .i64 s)).run Try.prog w = .ok (.int .i64 (fifS s)) w := by
  rcases cases7 h0 h6 with rfl | rfl | rfl | rfl | rfl | rfl | rfl <;> rfl

theorem number_any (s al o : Int) (w : World) (h : inR s al o) :
    Calls Try.prog 49 #[.agg #[.int .i64 s, .int .i64 al, .int .i64 o]] w fun e w' => e = .returned (.int .i64 (num s al o)) ∧ Below w.heap.size w w' := by
  obtain ⟨h0, h6, ha, ha', ho, ho'⟩ := h
  obtain ⟨hs0, hs1⟩ := semi_bd h0 h6
  have hi := semi_index s h0 h6
  go_enter Try.func49, Try.ntmps49
  go_wp2
  refine wp_region_later (by kernel_rfl) (by kernel_rfl) ?_
  obtain ⟨c0, c1, c2⟩ := later_box3 w (.int .i64 s) (.int .i64 al) (.int .i64 o) 35
  repeat (go_big_quiet_step ((go_at_call 51; exact later_calls (Nat.le_refl _) (semitones_any _))))
  refine wpQuiet_nil ?_
  intro w1 hb1
  clear c0 c1 c2
  go_wp2
  go_returns
  exact ⟨rfl, (by go_grown : Below _ _ _).trans (hb1.mono (by simp))⟩

theorem check_ok (s al o : Int) (w : World) (h : okP s al o) :
    Calls Try.prog 40 #[.agg #[.int .i64 s, .int .i64 al, .int .i64 o]] w fun e w' => e = .returned (.int .i64 0) ∧ Below w.heap.size w w' := by
  obtain ⟨hr, hn0, hn1⟩ := h
  obtain ⟨h0, h6, ha, ha', ho, ho'⟩ := id hr
  go_enter Try.func40, Try.ntmps40
  go_wp2_with (go_at_call 49; refine (number_any _ _ _ _ hr).mono ?_; rintro e w' ⟨rfl, hb⟩)
  go_returns
  exact ⟨rfl, (by go_grown : Below _ _ _).trans (hb.mono (by simp))⟩

theorem check_bad (s al o : Int) (w : World) (h : ¬ okP s al o) :
    Calls Try.prog 40 #[.agg #[.int .i64 s, .int .i64 al, .int .i64 o]] w fun e w' => e = .returned (.int .i64 18) ∧ Below w.heap.size w w' := by
  rcases not_okP h with ⟨hr, hn⟩ | hc
  · obtain ⟨h0, h6, ha, ha', ho, ho'⟩ := id hr
    clear h
    rcases hn with hn | hn
    all_goals
      go_enter Try.func40, Try.ntmps40
      go_wp2_with (go_at_call 49; refine (number_any _ _ _ _ hr).mono ?_; rintro e w' ⟨rfl, hb⟩)
      go_returns
      exact ⟨rfl, (by go_grown : Below _ _ _).trans (hb.mono (by simp))⟩
  · clear h
    rcases hc with h | ⟨h, h'⟩ | ⟨h, h', h2⟩ | ⟨h, h', h2, h3⟩ | ⟨h, h', h2, h3, h4⟩ | ⟨h, h', h2, h3, h4, h5⟩
    all_goals
      go_enter Try.func40, Try.ntmps40
      go_wp2_with fail
      go_returns
      exact ⟨rfl, by go_grown⟩

theorem tdiv12 (a : Int) : (a.tmod 12 < 0 ∧ -12 < a.tmod 12 ∧ a.tdiv 12 - 1 = a / 12 ∧ a.tmod 12 + 12 = a % 12) ∨ (0 ≤ a.tmod 12 ∧ a.tdiv 12 = a / 12 ∧ a.tmod 12 = a % 12) := by
  rw [Int.tdiv_eq_ediv, Int.tmod_eq_emod]
  have h7 : (12 : Int).sign = 1 := rfl
  have h8 : Int.natAbs 12 = 12 := rfl
  rw [h7, h8]
  split
  · right; omega
  · left; omega

theorem floor12 (a : Int) (w : World) (h0 : -1000 ≤ a) (h1 : a ≤ 1000) :
    Calls Try.prog 50 #[.int .i64 a, .int .i64 12] w fun e w' => e = .returned (.tuple #[.int .i64 (a / 12), .int .i64 (a % 12)]) ∧ Below w.heap.size w w' := by
  have hb : -1000 ≤ a.tdiv 12 ∧ a.tdiv 12 ≤ 1000 ∧ -12 < a.tmod 12 ∧ a.tmod 12 < 12 := by
    rcases tdiv12 a with ⟨_, _, _, _⟩ | ⟨_, _, _⟩ <;> omega
  obtain ⟨b1, b2, b3, b4⟩ := hb
  rcases tdiv12 a with ⟨hn, _, e1, e2⟩ | ⟨hn, e1, e2⟩
  all_goals
    rw [← e1, ← e2]
    clear e1 e2
    go_enter Try.func50, Try.ntmps50
    go_wp2
    go_quiet (fail)
    go_wp2
    go_returns
    exact ⟨rfl, below_dn (Below.refl _ _) _⟩

theorem pfifths_ok (s al o : Int) (w : World) (h : okP s al o) :
    Calls Try.prog 52 #[.agg #[.int .i64 s, .int .i64 al, .int .i64 o]] w fun e w' => e = .returned (.tuple #[.int .i64 (fif s al), .int .i64 0]) ∧ Below w.heap.size w w' := by
  obtain ⟨h0, h6, ha, ha', ho, ho'⟩ := h.1
  obtain ⟨hs0, hs1⟩ := fifS_bd h0 h6
  have hi := fifS_index s h0 h6
  go_enter Try.func52, Try.ntmps52
  go_wp2_with (go_at_call 40; refine (check_ok _ _ _ _ h).mono ?_; rintro e w1 ⟨rfl, hb⟩; obtain ⟨hc, hf⟩ := bcell hb)
  have hz := hb.size
  simp only [World.size_alloc] at hz
  have c0 : ∀ s' : Later w1.heap.size w1, s'.w.cell? ⟨w.heap.size, 0, none⟩ = some (.int .i64 s) := fun s' => later_cell ((hc _ _ (by simp)).trans (by simp)) (by show w.heap.size < _; omega) s'
  have c1 : ∀ s' : Later w1.heap.size w1, s'.w.cell? ⟨w.heap.size, 1, none⟩ = some (.int .i64 al) := fun s' => later_cell ((hc _ _ (by simp)).trans (by simp)) (by show w.heap.size < _; omega) s'
  have c2 : ∀ s' : Later w1.heap.size w1, s'.w.cell? ⟨w.heap.size, 2, none⟩ = some (.int .i64 o) := fun s' => later_cell ((hc _ _ (by simp)).trans (by simp)) (by show w.heap.size < _; omega) s'
  refine wp_region_later (by kernel_rfl) (by kernel_rfl) ?_
  repeat (go_big_quiet_step ((go_at_call 53; exact later_calls (Nat.le_refl _) (fifths_any _))))
  refine wpQuiet_nil ?_
  intro w2 hb2
  clear c0 c1 c2 hc hf
  go_wp2
  go_returns
  exact ⟨by first | rfl | (unfold fif; rfl), base1 (next0 hb hb2)⟩
end Go.Proofs.Ytdmhjcnijebfgaa
