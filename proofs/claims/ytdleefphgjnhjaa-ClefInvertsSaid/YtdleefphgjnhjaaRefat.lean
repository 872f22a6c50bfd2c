/- The reference's At: contracts. -/
import Derived.Test.YtdleefphgjnhjaaRefc
namespace Go.Proofs.Ytdleefphgjnhjaa
open Go.RowKit
set_option linter.unusedVariables false

set_option maxHeartbeats 400000 in
theorem rat_ok (k : Nat) (pos : Int) (w : World) (hk : k < 9) (h : dOk (kMid ((k : Int) + 1) + pos)) :
    Calls Try.prog 15 #[.int .i64 ((k : Int) + 1), .int .i64 pos] w fun e w' => e = .returned (.tuple #[.agg #[.int .i64 ((kMid ((k : Int) + 1) + pos) % 7), .int .i64 0, .int .i64 ((kMid ((k : Int) + 1) + pos) / 7)], .bool true]) ∧ Below w.heap.size w w' := by
  obtain ⟨k0, k1⟩ := kMid_bd (c := (k : Int) + 1) (by omega) (by omega)
  obtain ⟨_, _, _, _, d0, d1⟩ := h.1
  have H : Hid (okP ((kMid ((k : Int) + 1) + pos) % 7) 0 ((kMid ((k : Int) + 1) + pos) / 7)) := h
  clear h
  go_enter Try.func15, Try.ntmps15
  go_wp2
  go_loopw [6] (fun i wr => ∃ o : Int, -1 ≤ o ∧ o ≤ 10 ∧ i = .int .i64 o ∧ o ≤ (kMid ((k : Int) + 1) + pos) / 7 ∧ Below (w.alloc (.cells #[.int .i64 0, .int .i64 0, .int .i64 0] 24)).heap.size (w.alloc (.cells #[.int .i64 0, .int .i64 0, .int .i64 0] 24)) wr) (fun i _ => (10 - intOf i).toNat)
  case atStart => exact ⟨-1, by omega, by omega, rfl, by omega, Below.refl _ _⟩
  case round =>
    obtain ⟨o, o0, o1, rfl, hout, hbr⟩ := hrel
    have Hout := Lib.hid hout
    clear hout
    by_cases ho : o ≤ 9
    · go_wp2
      go_loopw [7] (fun i wr => ∃ s : Int, 0 ≤ s ∧ s ≤ 7 ∧ i = .int .i64 s ∧ (o < (kMid ((k : Int) + 1) + pos) / 7 ∨ (o = (kMid ((k : Int) + 1) + pos) / 7 ∧ s ≤ (kMid ((k : Int) + 1) + pos) % 7)) ∧ Below (w.alloc (.cells #[.int .i64 0, .int .i64 0, .int .i64 0] 24)).heap.size (w.alloc (.cells #[.int .i64 0, .int .i64 0, .int .i64 0] 24)) wr) (fun i _ => (7 - intOf i).toNat)
      case atStart => exact ⟨0, by omega, by omega, rfl, by have := Hout.out; omega, hbr⟩
      case round =>
        clear hbr
        obtain ⟨s, s0, s1, rfl, hin, hbr⟩ := hrel
        have Hin := Lib.hid hin
        clear hin
        have hz := hbr.size
        simp only [World.size_alloc] at hz
        have hy : w.heap.size < wr.heap.size := by omega
        obtain ⟨hc, hf⟩ := bcell hbr
        by_cases hs : s < 7
        · by_cases heq : 7 * o + s - kMid ((k : Int) + 1) = pos
          · have ht : (7 * o + s - kMid ((k : Int) + 1) == pos) = true := by simpa using heq
            obtain rfl : pos = 7 * o + s - kMid ((k : Int) + 1) := heq.symm
            have e1 : (kMid ((k : Int) + 1) + (7 * o + s - kMid ((k : Int) + 1))) % 7 = s := by omega
            have e2 : (kMid ((k : Int) + 1) + (7 * o + s - kMid ((k : Int) + 1))) / 7 = o := by omega
            rw [e1, e2] at H
            have E1 := Lib.hid e1
            have E2 := Lib.hid e2
            clear e1 e2 heq d0 d1
            go_wp2_with (first | (go_at_call 26; refine (rposition_any k _ _ _ _ hk s0 (by omega) o0 ho).mono ?_; rintro e w1 ⟨rfl, hb1⟩; have hz1 := hb1.size; simp only [World.size_alloc] at hz1; obtain ⟨hc1, hf1⟩ := bcell hb1; obtain ⟨hc2, hf2⟩ := bcell (next1 hbr hb1)) | (go_at_call 17; refine (exists_ok _ _ _ _ H.out).mono ?_; rintro e w2 ⟨rfl, hb2⟩; have hz2 := hb2.size; obtain ⟨hc3, hf3⟩ := bcell (next0 hb1 hb2); obtain ⟨hc4, hf4⟩ := bcell (next0 (next1 hbr hb1) hb2)))
            have h5 := base1 (next0 (next1 hbr hb1) hb2)
            exact bodyPost_ret (v := .tuple #[.agg #[.int .i64 s, .int .i64 0, .int .i64 o], .bool true]) (by simp [results, Try.results15, go_sem, hc4]) rfl ⟨by rw [E1.out, E2.out], by go_grown⟩
          · have ht : (7 * o + s - kMid ((k : Int) + 1) == pos) = false := by simpa using heq
            have Heq := Lib.hid heq
            clear heq
            go_wp2_with (first | (go_at_call 26; refine (rposition_any k _ _ _ _ hk s0 (by omega) o0 ho).mono ?_; rintro e w1 ⟨rfl, hb1⟩; have hz1 := hb1.size; simp only [World.size_alloc] at hz1; obtain ⟨hc1, hf1⟩ := bcell hb1; obtain ⟨hc2, hf2⟩ := bcell (next1 hbr hb1)))
            go_roundw
            case rel => exact ⟨s + 1, by omega, by omega, by go_num, by have := Heq.out; have := Hin.out; omega, next1 hbr hb1⟩
            case measure => simp [intOf]; omega
        · obtain rfl : s = 7 := by omega
          go_wp2
          go_roundw
          case rel => exact ⟨o + 1, by omega, by omega, by go_num, by have := Hin.out; omega, hbr⟩
          case measure => simp [intOf]; omega
    · exact absurd (show o ≤ 9 by have := Hout.out; omega) ho

set_option maxHeartbeats 400000 in
theorem rat_bad (k : Nat) (pos : Int) (w : World) (hk : k < 9) (h : ¬ dOk (kMid ((k : Int) + 1) + pos)) :
    Calls Try.prog 15 #[.int .i64 ((k : Int) + 1), .int .i64 pos] w fun e w' => e = .returned (.tuple #[.agg #[.int .i64 0, .int .i64 0, .int .i64 0], .bool false]) ∧ Below w.heap.size w w' := by
  obtain ⟨k0, k1⟩ := kMid_bd (c := (k : Int) + 1) (by omega) (by omega)
  have H : Hid (¬ okP ((kMid ((k : Int) + 1) + pos) % 7) 0 ((kMid ((k : Int) + 1) + pos) / 7)) := h
  clear h
  go_enter Try.func15, Try.ntmps15
  go_wp2
  go_loopw [6] (fun i wr => ∃ o : Int, -1 ≤ o ∧ o ≤ 10 ∧ i = .int .i64 o ∧ True ∧ Below (w.alloc (.cells #[.int .i64 0, .int .i64 0, .int .i64 0] 24)).heap.size (w.alloc (.cells #[.int .i64 0, .int .i64 0, .int .i64 0] 24)) wr) (fun i _ => (10 - intOf i).toNat)
  case atStart => exact ⟨-1, by omega, by omega, rfl, trivial, Below.refl _ _⟩
  case round =>
    obtain ⟨o, o0, o1, rfl, hout, hbr⟩ := hrel
    have Hout := Lib.hid hout
    clear hout
    by_cases ho : o ≤ 9
    · go_wp2
      go_loopw [7] (fun i wr => ∃ s : Int, 0 ≤ s ∧ s ≤ 7 ∧ i = .int .i64 s ∧ True ∧ Below (w.alloc (.cells #[.int .i64 0, .int .i64 0, .int .i64 0] 24)).heap.size (w.alloc (.cells #[.int .i64 0, .int .i64 0, .int .i64 0] 24)) wr) (fun i _ => (7 - intOf i).toNat)
      case atStart => exact ⟨0, by omega, by omega, rfl, trivial, hbr⟩
      case round =>
        clear hbr
        obtain ⟨s, s0, s1, rfl, hin, hbr⟩ := hrel
        have Hin := Lib.hid hin
        clear hin
        have hz := hbr.size
        simp only [World.size_alloc] at hz
        have hy : w.heap.size < wr.heap.size := by omega
        obtain ⟨hc, hf⟩ := bcell hbr
        by_cases hs : s < 7
        · by_cases heq : 7 * o + s - kMid ((k : Int) + 1) = pos
          · have ht : (7 * o + s - kMid ((k : Int) + 1) == pos) = true := by simpa using heq
            obtain rfl : pos = 7 * o + s - kMid ((k : Int) + 1) := heq.symm
            have e1 : (kMid ((k : Int) + 1) + (7 * o + s - kMid ((k : Int) + 1))) % 7 = s := by omega
            have e2 : (kMid ((k : Int) + 1) + (7 * o + s - kMid ((k : Int) + 1))) / 7 = o := by omega
            rw [e1, e2] at H
            clear e1 e2 heq
            go_wp2_with (first | (go_at_call 26; refine (rposition_any k _ _ _ _ hk s0 (by omega) o0 ho).mono ?_; rintro e w1 ⟨rfl, hb1⟩; have hz1 := hb1.size; simp only [World.size_alloc] at hz1; obtain ⟨hc1, hf1⟩ := bcell hb1; obtain ⟨hc2, hf2⟩ := bcell (next1 hbr hb1)) | (go_at_call 17; refine (exists_bad _ _ _ _ H.out).mono ?_; rintro e w2 ⟨rfl, hb2⟩; have hz2 := hb2.size; obtain ⟨hc3, hf3⟩ := bcell (next0 hb1 hb2); obtain ⟨hc4, hf4⟩ := bcell (next0 (next1 hbr hb1) hb2)))
            go_roundw
            case rel => exact ⟨s + 1, by omega, by omega, by go_num, trivial, next0 (next1 hbr hb1) hb2⟩
            case measure => simp [intOf]; omega
          · have ht : (7 * o + s - kMid ((k : Int) + 1) == pos) = false := by simpa using heq
            have Heq := Lib.hid heq
            clear heq
            go_wp2_with (first | (go_at_call 26; refine (rposition_any k _ _ _ _ hk s0 (by omega) o0 ho).mono ?_; rintro e w1 ⟨rfl, hb1⟩; have hz1 := hb1.size; simp only [World.size_alloc] at hz1; obtain ⟨hc1, hf1⟩ := bcell hb1; obtain ⟨hc2, hf2⟩ := bcell (next1 hbr hb1)))
            go_roundw
            case rel => exact ⟨s + 1, by omega, by omega, by go_num, trivial, next1 hbr hb1⟩
            case measure => simp [intOf]; omega
        · obtain rfl : s = 7 := by omega
          go_wp2
          go_roundw
          case rel => exact ⟨o + 1, by omega, by omega, by go_num, trivial, hbr⟩
          case measure => simp [intOf]; omega
    · obtain rfl : o = 10 := by omega
      have hz := hbr.size
      simp only [World.size_alloc] at hz
      obtain ⟨hc, hf⟩ := bcell hbr
      go_wp2
      have h5 := base1 hbr
      exact bodyPost_ret (v := .tuple #[.agg #[.int .i64 0, .int .i64 0, .int .i64 0], .bool false]) (by simp [results, Try.results15, go_sem, hc]) rfl ⟨rfl, by go_grown⟩

end Go.Proofs.Ytdleefphgjnhjaa
