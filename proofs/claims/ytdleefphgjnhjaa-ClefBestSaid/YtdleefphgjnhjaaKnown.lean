/- The law's known: true. -/
import Derived.Test.YtdleefphgjnhjaaSig
namespace Go.Proofs.Ytdleefphgjnhjaa
open Go.RowKit
set_option linter.unusedVariables false

theorem okP_of {s al o : Int} (h : inR s al o) (h0 : 0 ≤ num s al o) (h1 : num s al o ≤ 127) : okP s al o := ⟨h, h0, h1⟩

theorem led_m7 (w : World) : Calls Try.prog 19 #[.int .i64 (-7)] w fun e w' => ∃ b off c, e = .returned (.slice (some ⟨b, off, none⟩) 1 c) ∧ b < w'.heap.size ∧ w'.cell? ⟨b, off, none⟩ = some (.int .i64 (-6)) ∧ Below w.heap.size w w' := by
  refine (ledger_any (-7) w (by omega) (by omega)).mono ?_
  rintro e w1 ⟨v, rfl, hacc⟩
  have hb := hacc.below
  have hl : ledger (-7) = [-6] := by decide
  rw [hl] at hacc
  obtain ⟨A, c, rfl, _, _, hrd⟩ := acc_form hacc
  obtain ⟨b, off, rfl, hlt, hc⟩ := rd_pos hrd (by simp)
  exact ⟨b, off, c, rfl, hlt, hc 0 _ rfl, hb⟩

theorem sig_1_3 (w : World) : Calls Try.prog 21 #[.int .i64 1, .int .i64 3] w fun e w' => ∃ b off c, e = .returned (.tuple #[.slice (some ⟨b, off, none⟩) 3 c, .int .i64 0]) ∧ b < w'.heap.size ∧ w'.cell? ⟨b, off, none⟩ = some (.int .i64 4) ∧
    w'.cell? ⟨b, off + 1, none⟩ = some (.int .i64 1) ∧ w'.cell? ⟨b, off + 2, none⟩ = some (.int .i64 5) ∧ Below w.heap.size w w' := by
  refine (sig_sharp 1 3 w (by omega) (by omega) (by omega)).mono ?_
  rintro e w1 ⟨v, W, rfl, hbW, hacc⟩
  have hb : Below w.heap.size w w1 := hbW.trans (hacc.below.mono hbW.size)
  have hl : (sharpL.take 3).map (place (kMid 1) (kSharps 1)) = [4, 1, 5] := by decide
  rw [hl] at hacc
  obtain ⟨A, c, rfl, _, _, hrd⟩ := acc_form hacc
  obtain ⟨b, off, rfl, hlt, hc⟩ := rd_pos hrd (by simp)
  exact ⟨b, off, c, rfl, hlt, hc 0 _ rfl, hc 1 _ rfl, hc 2 _ rfl, hb⟩

theorem pos_known (w : World) : Calls Try.prog 16 #[.int .i64 1, .agg #[.int .i64 0, .int .i64 0, .int .i64 4]] w fun e w' => e = .returned (.tuple #[.int .i64 (-6), .int .i64 0]) ∧ Below w.heap.size w w' :=
  position_ok 1 0 0 4 w (by omega) (by omega) (okP_of (by unfold inR; decide) (by decide) (by decide))

theorem at_known (w : World) : Calls Try.prog 13 #[.int .i64 2, .int .i64 (-17)] w fun e w' => e = .returned (.tuple #[.agg #[.int .i64 5, .int .i64 0, .int .i64 0], .int .i64 0]) ∧ Below w.heap.size w w' :=
  at_ok 2 (-17) w (by omega) (by omega) (by omega) (by omega) (okP_of (by unfold inR; decide) (by decide) (by decide))

theorem known_any (w : World) : Calls Try.prog 12 #[] w fun e w' => e = .returned (.bool true) ∧ Below w.heap.size w w' := by
  go_enter Try.func12, Try.ntmps12
  go_wp2_with (first
    | (go_at_call 16; refine (pos_known _).mono ?_; rintro e w1 ⟨rfl, hb⟩; have hz := hb.size)
    | (go_at_call 13; refine (at_known _).mono ?_; rintro e w2 ⟨rfl, hb2⟩; have hz2 := hb2.size; obtain ⟨hc2, hf2⟩ := bcell hb2)
    | (go_at_call 19; refine (led_m7 _).mono ?_; rintro e w3 ⟨b, off, c, rfl, hlt, hcell, hb3⟩; have hz3 := hb3.size; simp only [World.size_alloc] at hz3; obtain ⟨hc3, hf3⟩ := bcell hb3)
    | (go_at_call 21; refine (sig_1_3 _).mono ?_; rintro e w4 ⟨b', off', c', rfl, hlt', s0, s1, s2, hb4⟩; have hz4 := hb4.size; have l0 := (hb4.cell (p := ⟨b, off, none⟩) hlt).trans hcell; obtain ⟨hc4, hf4⟩ := bcell (next0 hb3 hb4)))
  go_returns
  have h2 := next0 hb hb2
  have h3 := next1 h2 hb3
  exact ⟨rfl, next0 h3 hb4⟩

end Go.Proofs.Ytdleefphgjnhjaa
