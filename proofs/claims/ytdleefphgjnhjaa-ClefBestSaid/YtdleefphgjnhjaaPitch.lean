/- What package pitch computes: semitones, number, Check, floor, Diatonic, Of: contracts. -/
import Derived.Test.YtdleefphgjnhjaaKit
import Derived.Test.YtdleefphgjnhjaaProg
namespace Go.Proofs.Ytdleefphgjnhjaa
open Go.RowKit
set_option linter.unusedVariables false

def semi (s : Int) : Int := ([0, 2, 4, 5, 7, 9, 11] : List Int).getD s.toNat 0
def num (s al o : Int) : Int := 12 * (o + 1) + semi s + al
def inR (s al o : Int) : Prop := 0 ≤ s ∧ s ≤ 6 ∧ -2 ≤ al ∧ al ≤ 2 ∧ -1 ≤ o ∧ o ≤ 9
def okP (s al o : Int) : Prop := inR s al o ∧ 0 ≤ num s al o ∧ num s al o ≤ 127
def pitchV (s al o : Int) : Value := .agg #[.int .i64 s, .int .i64 al, .int .i64 o]

theorem cases7 {s : Int} (h0 : 0 ≤ s) (h6 : s ≤ 6) : s = 0 ∨ s = 1 ∨ s = 2 ∨ s = 3 ∨ s = 4 ∨ s = 5 ∨ s = 6 := by omega
theorem semi_bd {s : Int} (h0 : 0 ≤ s) (h6 : s ≤ 6) : 0 ≤ semi s ∧ semi s ≤ 11 := by
  rcases cases7 h0 h6 with rfl | rfl | rfl | rfl | rfl | rfl | rfl <;> decide
theorem not_okP {s al o : Int} (h : ¬ okP s al o) :
    (inR s al o ∧ (num s al o < 0 ∨ 127 < num s al o)) ∨ (s < 0 ∨ (0 ≤ s ∧ 6 < s) ∨ (0 ≤ s ∧ s ≤ 6 ∧ al < -2) ∨ (0 ≤ s ∧ s ≤ 6 ∧ -2 ≤ al ∧ 2 < al) ∨ (0 ≤ s ∧ s ≤ 6 ∧ -2 ≤ al ∧ al ≤ 2 ∧ o < -1) ∨ (0 ≤ s ∧ s ≤ 6 ∧ -2 ≤ al ∧ al ≤ 2 ∧ -1 ≤ o ∧ 9 < o)) := by
  by_cases hr : inR s al o
  · left
    refine ⟨hr, ?_⟩
    rcases Int.lt_or_le (num s al o) 0 with h1 | h1
    · exact .inl h1
    · rcases Int.lt_or_le 127 (num s al o) with h2 | h2
      · exact .inr h2
      · exact absurd ⟨hr, h1, h2⟩ h
  · right
    unfold inR at hr; omega

theorem semitones_any (w : World) : Calls Try.prog 43 #[] w fun e w' => e = .returned (.agg #[.int .i64 0, .int .i64 2, .int .i64 4, .int .i64 5, .int .i64 7, .int .i64 9, .int .i64 11]) ∧ Below w.heap.size w w' := by
  go_enter Try.func43, Try.ntmps43
  go_wp2
  go_returns
  exact ⟨rfl, by go_grown⟩

theorem semi_index (s : Int) (h0 : 0 ≤ s) (h6 : s ≤ 6) (w : World) : (Instr.index 75 (.agg #[.int .i64 0, .int .i64 2, .int .i64 4, .int .i64 5, .int .i64 7, .int .i64 9, .int .i64 11]) (.int .i64 s)).run Try.prog w = .ok (.int .i64 (semi s)) w := by
  rcases cases7 h0 h6 with rfl | rfl | rfl | rfl | rfl | rfl | rfl <;> rfl

theorem number_any (s al o : Int) (w : World) (h : inR s al o) :
    Calls Try.prog 42 #[.agg #[.int .i64 s, .int .i64 al, .int .i64 o]] w fun e w' => e = .returned (.int .i64 (num s al o)) ∧ Below w.heap.size w w' := by
  obtain ⟨h0, h6, ha, ha', ho, ho'⟩ := h
  obtain ⟨hs0, hs1⟩ := semi_bd h0 h6
  have hi := semi_index s h0 h6
  go_enter Try.func42, Try.ntmps42
  go_wp2
  refine wp_region_later (by kernel_rfl) (by kernel_rfl) ?_
  obtain ⟨c0, c1, c2⟩ := later_box3 w (.int .i64 s) (.int .i64 al) (.int .i64 o) 24
  repeat (go_big_quiet_step ((go_at_call 43; exact later_calls (Nat.le_refl _) (semitones_any _))))
  refine wpQuiet_nil ?_
  intro w1 hb1
  clear c0 c1 c2
  go_wp2
  go_returns
  exact ⟨rfl, (by go_grown : Below _ _ _).trans (hb1.mono (by simp))⟩

theorem check_ok (s al o : Int) (w : World) (h : okP s al o) :
    Calls Try.prog 38 #[.agg #[.int .i64 s, .int .i64 al, .int .i64 o]] w fun e w' => e = .returned (.int .i64 0) ∧ Below w.heap.size w w' := by
  obtain ⟨hr, hn0, hn1⟩ := h
  obtain ⟨h0, h6, ha, ha', ho, ho'⟩ := id hr
  go_enter Try.func38, Try.ntmps38
  go_wp2_with (go_at_call 42; refine (number_any _ _ _ _ hr).mono ?_; rintro e w' ⟨rfl, hb⟩)
  go_returns
  exact ⟨rfl, (by go_grown : Below _ _ _).trans (hb.mono (by simp))⟩

theorem check_bad (s al o : Int) (w : World) (h : ¬ okP s al o) :
    Calls Try.prog 38 #[.agg #[.int .i64 s, .int .i64 al, .int .i64 o]] w fun e w' => e = .returned (.int .i64 18) ∧ Below w.heap.size w w' := by
  rcases not_okP h with ⟨hr, hn⟩ | hc
  · obtain ⟨h0, h6, ha, ha', ho, ho'⟩ := id hr
    clear h
    rcases hn with hn | hn
    all_goals
      go_enter Try.func38, Try.ntmps38
      go_wp2_with (go_at_call 42; refine (number_any _ _ _ _ hr).mono ?_; rintro e w' ⟨rfl, hb⟩)
      go_returns
      exact ⟨rfl, (by go_grown : Below _ _ _).trans (hb.mono (by simp))⟩
  · clear h
    rcases hc with h | ⟨h, h'⟩ | ⟨h, h', h2⟩ | ⟨h, h', h2, h3⟩ | ⟨h, h', h2, h3, h4⟩ | ⟨h, h', h2, h3, h4, h5⟩
    all_goals
      go_enter Try.func38, Try.ntmps38
      go_wp2_with fail
      go_returns
      exact ⟨rfl, by go_grown⟩

theorem tdiv7 (a : Int) : (a.tmod 7 < 0 ∧ -7 < a.tmod 7 ∧ a.tdiv 7 - 1 = a / 7 ∧ a.tmod 7 + 7 = a % 7) ∨ (0 ≤ a.tmod 7 ∧ a.tdiv 7 = a / 7 ∧ a.tmod 7 = a % 7) := by
  rw [Int.tdiv_eq_ediv, Int.tmod_eq_emod]
  have h7 : (7 : Int).sign = 1 := rfl
  have h8 : Int.natAbs 7 = 7 := rfl
  rw [h7, h8]
  split
  · right; omega
  · left; omega

theorem floor7 (a : Int) (w : World) (h0 : -1000 ≤ a) (h1 : a ≤ 1000) :
    Calls Try.prog 40 #[.int .i64 a, .int .i64 7] w fun e w' => e = .returned (.tuple #[.int .i64 (a / 7), .int .i64 (a % 7)]) ∧ Below w.heap.size w w' := by
  have hb : -1000 ≤ a.tdiv 7 ∧ a.tdiv 7 ≤ 1000 ∧ -7 < a.tmod 7 ∧ a.tmod 7 < 7 := by
    rcases tdiv7 a with ⟨_, _, _, _⟩ | ⟨_, _, _⟩ <;> omega
  obtain ⟨b1, b2, b3, b4⟩ := hb
  rcases tdiv7 a with ⟨hn, _, e1, e2⟩ | ⟨hn, e1, e2⟩
  all_goals
    rw [← e1, ← e2]
    clear e1 e2
    go_enter Try.func40, Try.ntmps40
    go_wp2
    go_quiet (fail)
    go_wp2
    go_returns
    exact ⟨rfl, below_dn (Below.refl _ _) _⟩

theorem diatonic_ok (s al o : Int) (w : World) (h : okP s al o) :
    Calls Try.prog 35 #[.agg #[.int .i64 s, .int .i64 al, .int .i64 o]] w fun e w' => e = .returned (.tuple #[.int .i64 (7 * o + s), .int .i64 0]) ∧ Below w.heap.size w w' := by
  obtain ⟨h0, h6, ha, ha', ho, ho'⟩ := h.1
  go_enter Try.func35, Try.ntmps35
  go_wp2_with (go_at_call 38; refine (check_ok _ _ _ _ h).mono ?_; rintro e w1 ⟨rfl, hb⟩; obtain ⟨hc, hf⟩ := bcell hb)
  go_returns
  exact ⟨rfl, (by go_grown : Below _ _ _).trans (hb.mono (by simp))⟩

theorem diatonic_bad (s al o : Int) (w : World) (h : ¬ okP s al o) :
    Calls Try.prog 35 #[.agg #[.int .i64 s, .int .i64 al, .int .i64 o]] w fun e w' => e = .returned (.tuple #[.int .i64 0, .int .i64 18]) ∧ Below w.heap.size w w' := by
  go_enter Try.func35, Try.ntmps35
  go_wp2_with (go_at_call 38; refine (check_bad _ _ _ _ h).mono ?_; rintro e w1 ⟨rfl, hb⟩; obtain ⟨hc, hf⟩ := bcell hb)
  go_returns
  exact ⟨rfl, (by go_grown : Below _ _ _).trans (hb.mono (by simp))⟩

theorem of_pitch_ok (d : Int) (w : World) (h0 : -1000 ≤ d) (h1 : d ≤ 1000) (h : okP (d % 7) 0 (d / 7)) :
    Calls Try.prog 34 #[.int .i64 d, .int .i64 0] w fun e w' => e = .returned (.tuple #[.agg #[.int .i64 (d % 7), .int .i64 0, .int .i64 (d / 7)], .int .i64 0]) ∧ Below w.heap.size w w' := by
  go_enter Try.func34, Try.ntmps34
  go_wp2_with (first
    | (go_at_call 40; refine (floor7 _ _ h0 h1).mono ?_; rintro e w1 ⟨rfl, hb⟩; obtain ⟨hc, hf⟩ := bcell hb; have hz := hb.size; simp only [World.size_alloc] at hz)
    | (go_at_call 38; refine (check_ok _ _ _ _ h).mono ?_; rintro e w2 ⟨rfl, hb2⟩; obtain ⟨hc2, hf2⟩ := bcell hb2; obtain ⟨hc3, hf3⟩ := bcell (next1 hb hb2); have hz2 := hb2.size; simp only [World.size_alloc] at hz2))
  have h3 := (show Below w.heap.size w _ from by go_grown).trans ((next1 hb hb2).mono (by simp))
  exact bodyPost_ret (v := .tuple #[.agg #[.int .i64 (d % 7), .int .i64 0, .int .i64 (d / 7)], .int .i64 0]) (by simp [results, Try.results34, go_sem, hc3]) rfl ⟨rfl, by go_grown⟩

theorem of_pitch_bad (d : Int) (w : World) (h0 : -1000 ≤ d) (h1 : d ≤ 1000) (h : ¬ okP (d % 7) 0 (d / 7)) :
    Calls Try.prog 34 #[.int .i64 d, .int .i64 0] w fun e w' => e = .returned (.tuple #[.agg #[.int .i64 0, .int .i64 0, .int .i64 0], .int .i64 18]) ∧ Below w.heap.size w w' := by
  go_enter Try.func34, Try.ntmps34
  go_wp2_with (first
    | (go_at_call 40; refine (floor7 _ _ h0 h1).mono ?_; rintro e w1 ⟨rfl, hb⟩; obtain ⟨hc, hf⟩ := bcell hb; have hz := hb.size; simp only [World.size_alloc] at hz)
    | (go_at_call 38; refine (check_bad _ _ _ _ h).mono ?_; rintro e w2 ⟨rfl, hb2⟩; obtain ⟨hc2, hf2⟩ := bcell hb2; obtain ⟨hc3, hf3⟩ := bcell (next1 hb hb2); have hz2 := hb2.size; simp only [World.size_alloc] at hz2))
  have h3 := (show Below w.heap.size w _ from by go_grown).trans ((next1 hb hb2).mono (by simp))
  exact bodyPost_ret (v := .tuple #[.agg #[.int .i64 0, .int .i64 0, .int .i64 0], .int .i64 18]) (by simp [results, Try.results34, go_sem, hc3]) rfl ⟨rfl, by go_grown⟩

end Go.Proofs.Ytdleefphgjnhjaa
