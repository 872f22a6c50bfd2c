/- The reference of pitch: semitones, Number, Exists: contracts. -/
import Derived.Test.YtdleefphgjnhjaaPitch
namespace Go.Proofs.Ytdleefphgjnhjaa
open Go.RowKit
set_option linter.unusedVariables false

theorem rsemi_any (s : Int) (w : World) (h0 : 0 ≤ s) (h6 : s ≤ 6) : Calls Try.prog 41 #[.int .i64 s] w fun e w' => e = .returned (.int .i64 (semi s)) ∧ Below w.heap.size w w' := by
  rcases cases7 h0 h6 with rfl | rfl | rfl | rfl | rfl | rfl | rfl
  all_goals
    go_enter Try.func41, Try.ntmps41
    go_wp2
    go_returns
    exact ⟨rfl, by go_grown⟩

theorem rnumber_any (s al o : Int) (w : World) (h : inR s al o) :
    Calls Try.prog 36 #[.agg #[.int .i64 s, .int .i64 al, .int .i64 o]] w fun e w' => e = .returned (.int .i64 (num s al o)) ∧ Below w.heap.size w w' := by
  obtain ⟨h0, h6, ha, ha', ho, ho'⟩ := h
  obtain ⟨hs0, hs1⟩ := semi_bd h0 h6
  go_enter Try.func36, Try.ntmps36
  go_wp2
  refine wp_region_later (by kernel_rfl) (by kernel_rfl) ?_
  obtain ⟨c0, c1, c2⟩ := later_box3 w (.int .i64 s) (.int .i64 al) (.int .i64 o) 24
  repeat (go_big_quiet_step ((go_at_call 41; exact later_calls (Nat.le_refl _) (rsemi_any _ _ h0 h6))))
  refine wpQuiet_nil ?_
  intro w1 hb1
  clear c0 c1 c2
  go_wp2
  go_returns
  exact ⟨rfl, base1 hb1⟩

theorem exists_ok (s al o : Int) (w : World) (h : okP s al o) :
    Calls Try.prog 17 #[.agg #[.int .i64 s, .int .i64 al, .int .i64 o]] w fun e w' => e = .returned (.bool true) ∧ Below w.heap.size w w' := by
  obtain ⟨hr, hn0, hn1⟩ := h
  obtain ⟨h0, h6, ha, ha', ho, ho'⟩ := id hr
  go_enter Try.func17, Try.ntmps17
  go_wp2_with (go_at_call 36; refine (rnumber_any _ _ _ _ hr).mono ?_; rintro e w' ⟨rfl, hb⟩)
  go_returns
  exact ⟨by first | rfl | (simp; done) | (simp; omega), base1 hb⟩

theorem exists_bad (s al o : Int) (w : World) (h : ¬ okP s al o) :
    Calls Try.prog 17 #[.agg #[.int .i64 s, .int .i64 al, .int .i64 o]] w fun e w' => e = .returned (.bool false) ∧ Below w.heap.size w w' := by
  rcases not_okP h with ⟨hr, hn⟩ | hc
  · obtain ⟨h0, h6, ha, ha', ho, ho'⟩ := id hr
    clear h
    rcases hn with hn | hn
    · go_enter Try.func17, Try.ntmps17
      go_wp2_with (go_at_call 36; refine (rnumber_any _ _ _ _ hr).mono ?_; rintro e w' ⟨rfl, hb⟩)
      go_returns
      exact ⟨by first | rfl | (simp; done) | (simp; omega), base1 hb⟩
    · have hn' : 0 ≤ num s al o := by omega
      go_enter Try.func17, Try.ntmps17
      go_wp2_with (go_at_call 36; refine (rnumber_any _ _ _ _ hr).mono ?_; rintro e w' ⟨rfl, hb⟩)
      go_returns
      exact ⟨by first | rfl | (simp; done) | (simp; omega), base1 hb⟩
  · clear h
    rcases hc with h | ⟨h, h'⟩ | ⟨h, h', h2⟩ | ⟨h, h', h2, h3⟩ | ⟨h, h', h2, h3, h4⟩ | ⟨h, h', h2, h3, h4, h5⟩
    all_goals
      go_enter Try.func17, Try.ntmps17
      go_wp2_with fail
      go_returns
      exact ⟨rfl, by go_grown⟩

end Go.Proofs.Ytdleefphgjnhjaa
