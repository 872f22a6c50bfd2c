/- Signature of the package: contract. -/
import Derived.Test.YtdleefphgjnhjaaNumbers
namespace Go.Proofs.Ytdleefphgjnhjaa
open Go.RowKit
set_option linter.unusedVariables false

def sharpL : List Int := [3, 0, 4, 1, 5, 2, 6]
def flatL : List Int := [6, 2, 5, 1, 4, 0, 3]
/-- The place of a step among the seven from low on. -/
def place (m low s : Int) : Int := low + (s - m - low) % 7
theorem place_bd (m low s : Int) : low ≤ place m low s ∧ place m low s < low + 7 := by unfold place; omega
theorem place_iff (m low s p : Int) (h0 : 0 ≤ s) (h6 : s ≤ 6) (hp : low ≤ p) (hp' : p < low + 7) : (m + p + 7) % 7 = s ↔ p = place m low s := by unfold place; omega
theorem stepL_bd {l : List Int} (h : l = sharpL ∨ l = flatL) {k : Nat} (hk : k < l.length) : 0 ≤ l[k] ∧ l[k] ≤ 6 := by
  have : ∀ x ∈ l, 0 ≤ x ∧ x ≤ 6 := by
    rcases h with rfl | rfl <;> decide
  exact this _ (List.getElem_mem hk)
theorem rd_at {w : World} {B b off j : Nat} {xs : List Value} {u : Value} (h : Rd w B (some ⟨b, off, none⟩) xs) (hu : xs[j]? = some u) : w.cell? ⟨b, off + j, none⟩ = some u := by
  obtain ⟨b', off', e, _, hc⟩ := rd_pos h (by
    have := (List.getElem?_eq_some_iff.1 hu).1; omega)
  injection e with e
  injection e with e1 e2
  subst e1 e2
  exact hc j u hu
theorem kLow_bd {c : Int} (h1 : 1 ≤ c) (h9 : c ≤ 9) : -5 ≤ kSharps c ∧ kSharps c ≤ 0 ∧ -5 ≤ kFlats c ∧ kFlats c ≤ 0 := by
  rcases cases9 h1 h9 with rfl | rfl | rfl | rfl | rfl | rfl | rfl | rfl | rfl <;> decide

/-- What has been found when the places up to low + j have been looked at. -/
def part (m low s : Int) (j : Nat) : List Int := if place m low s < low + (j : Int) then [place m low s] else []
theorem part_zero (m low s : Int) : part m low s 0 = [] := by have := place_bd m low s; simp [part]; omega
theorem part_seven (m low s : Int) : part m low s 7 = [place m low s] := by have := place_bd m low s; unfold part; rw [if_pos (by omega)]
theorem part_hit {m low s : Int} {j : Nat} (h : low + (j : Int) = place m low s) : part m low s j = [] ∧ part m low s (j + 1) = [low + (j : Int)] := by
  unfold part; rw [if_neg (by omega), if_pos (by omega), h]; exact ⟨rfl, rfl⟩
theorem part_miss {m low s : Int} {j : Nat} (h : low + (j : Int) ≠ place m low s) : part m low s (j + 1) = part m low s j := by
  unfold part
  by_cases hlt : place m low s < low + (j : Int)
  · rw [if_pos hlt, if_pos (by omega)]
  · rw [if_neg hlt, if_neg (by omega)]
theorem part_len (m low s : Int) (j : Nat) : (part m low s j).length ≤ 1 := by unfold part; split <;> simp

theorem sig_sharp (c : Int) (n : Nat) (w : World) (h1 : 1 ≤ c) (h9 : c ≤ 9) (hn : n ≤ 7) :
    Calls Try.prog 21 #[.int .i64 c, .int .i64 (n : Int)] w fun e w' => ∃ v W, e = .returned (.tuple #[v, .int .i64 0]) ∧ Below w.heap.size w W ∧ AccI W w' v ((sharpL.take n).map (place (kMid c) (kSharps c))) := by
  obtain ⟨k0, k1⟩ := kMid_bd h1 h9
  obtain ⟨l0, l1, _, _⟩ := kLow_bd h1 h9
  go_enter Try.func21, Try.ntmps21
  go_wp2_with (go_at_call 33; refine (of_ok _ _ h1 h9).mono ?_; rintro e w1 ⟨rfl, hb⟩; have hz := hb.size; obtain ⟨hc, hf⟩ := bcell hb)
  go_region
  all_goals go_wp2
  have hbW : Below w.heap.size w (World.drew (World.alloc (World.alloc w1 (.cells (kindL c).toArray 63)) (.cells (ints sharpL).toArray 3))) := ((hb.alloc hz _).alloc (by simp; omega) _).drew
  have hrW : Rd (World.drew (World.alloc (World.alloc w1 (.cells (kindL c).toArray 63)) (.cells (ints sharpL).toArray 3))) (w1.heap.size + 1 + 1) (some ⟨w1.heap.size + 1, 0, none⟩) (ints sharpL) := by
    have := rd_new (World.alloc w1 (.cells (kindL c).toArray 63)) (ints sharpL) 3
    rw [World.size_alloc] at this
    exact this
  have hcW : (World.drew (World.alloc (World.alloc w1 (.cells (kindL c).toArray 63)) (.cells (ints sharpL).toArray 3))).cell? ⟨w1.heap.size, 4, none⟩ = some (.int .i64 (kMid c)) := by simp [kindL]
  have hsW : (World.drew (World.alloc (World.alloc w1 (.cells (kindL c).toArray 63)) (.cells (ints sharpL).toArray 3))).heap.size = w1.heap.size + 1 + 1 := by simp
  simp only [kindL, ints, sharpL, List.map_cons, List.map_nil] at hbW hrW hcW hsW
  generalize hW : World.drew (World.alloc (World.alloc w1 _) _) = W at *
  clear hW
  clear hc hf
  go_loopw [10, 44] (fun v i wr => ∃ k : Nat, k ≤ n ∧ i = .int .i64 (k : Int) ∧ AccI W wr v ((sharpL.take k).map (place (kMid c) (kSharps c)))) (fun _ i _ => n - (intOf i).toNat)
  case atStart => exact ⟨0, Nat.zero_le _, rfl, accI_nil _⟩
  case round =>
    obtain ⟨k, hk, rfl, hacc⟩ := hrel
    by_cases hlt : k < n
    · have hk7 : k < sharpL.length := Nat.lt_of_lt_of_le hlt hn
      have hs0 : 0 ≤ sharpL[k] ∧ sharpL[k] ≤ 6 := stepL_bd (.inl rfl) hk7
      obtain ⟨s0, s6⟩ := hs0
      have hcs : wr.cell? ⟨w1.heap.size + 1, k, none⟩ = some (.int .i64 sharpL[k]) := by
        have h := rd_at hrW (ints_at hk7)
        rw [Nat.zero_add] at h
        exact (hacc.below.cell (p := ⟨w1.heap.size + 1, k, none⟩) (by simp; omega)).trans h
      have hcm : wr.cell? ⟨w1.heap.size, 4, none⟩ = some (.int .i64 (kMid c)) := (hacc.below.cell (p := ⟨w1.heap.size, 4, none⟩) (by simp; omega)).trans hcW
      have hstep : (sharpL.take (k + 1)).map (place (kMid c) (kSharps c)) = (sharpL.take k).map (place (kMid c) (kSharps c)) ++ [place (kMid c) (kSharps c) sharpL[k]] := by
        rw [List.take_succ_eq_append_getElem hk7, List.map_append, List.map_singleton]
      have Hstep := Lib.hid hstep
      clear hstep
      have hdl : ((sharpL.take k).map (place (kMid c) (kSharps c))).length ≤ 7 := by simp; omega
      generalize hdone : (sharpL.take k).map (place (kMid c) (kSharps c)) = done at *
      generalize hs : sharpL[k] = s at *
      clear hdone hs
      have i0 : (k : Int) < (n : Int) := by omega
      have i1 : (0 : Int) ≤ (k : Int) := by omega
      go_wp2
      go_loopw [10, 13] (fun v p wr => ∃ j : Nat, j ≤ 7 ∧ p = .int .i64 (kSharps c + (j : Int)) ∧ AccI W wr v (done ++ part (kMid c) (kSharps c) s j)) (fun _ p _ => (kSharps c + 7 - intOf p).toNat)
      case atStart => exact ⟨0, by omega, by simp, by rw [part_zero]; simpa using hacc⟩
      case round =>
        clear hacc hcs hcm
        obtain ⟨j, hj, rfl, hacc⟩ := hrel
        have hcm : wr.cell? ⟨w1.heap.size, 4, none⟩ = some (.int .i64 (kMid c)) := (hacc.below.cell (p := ⟨w1.heap.size, 4, none⟩) (by simp; omega)).trans hcW
        have hpl := part_len (kMid c) (kSharps c) s j
        by_cases hj7 : j < 7
        · have j0 : kSharps c + (j : Int) < kSharps c + 7 := by omega
          by_cases hit : kSharps c + (j : Int) = place (kMid c) (kSharps c) s
          · have ht : ((kMid c + (kSharps c + (j : Int)) + 7) % 7 == s) = true := beq_iff_eq.2 ((place_iff _ _ _ _ s0 s6 (by omega) (by omega)).2 hit)
            obtain ⟨e1, e2⟩ := part_hit hit
            rw [e1] at hacc
            have E2 := Lib.hid e2
            clear e1 e2 hit
            go_wp2_with ((at_builtin; refine wpList_pushI rfl _ _ rfl (kSharps c + (j : Int)) hacc (by rfl) (by rfl) (by simp; omega) ?_; intro v' w1 hacc'))
            go_roundw
            case rel => exact ⟨j + 1, by omega, by go_num, by rw [E2.out]; simpa using hacc'⟩
            case measure => simp [intOf]; omega
          · have ht : ((kMid c + (kSharps c + (j : Int)) + 7) % 7 == s) = false := beq_eq_false_iff_ne.2 fun h => hit ((place_iff _ _ _ _ s0 s6 (by omega) (by omega)).1 h)
            have e2 := part_miss hit
            rw [← e2] at hacc
            clear e2 hit
            go_wp2
            go_roundw
            case rel => exact ⟨j + 1, by omega, by go_num, hacc⟩
            case measure => simp [intOf]; omega
        · obtain rfl : j = 7 := by omega
          rw [part_seven, ← Hstep.out] at hacc
          go_wp2
          go_roundw
          case rel => exact ⟨k + 1, by omega, by go_num, hacc⟩
          case measure => simp [intOf]; omega
    · obtain rfl : k = n := by omega
      go_wp2
      go_returns
      exact ⟨_, W, rfl, hbW, hacc⟩

theorem sig_flat (c : Int) (n : Nat) (w : World) (h1 : 1 ≤ c) (h9 : c ≤ 9) (hn0 : 0 < n) (hn : n ≤ 7) :
    Calls Try.prog 21 #[.int .i64 c, .int .i64 (-(n : Int))] w fun e w' => ∃ v W, e = .returned (.tuple #[v, .int .i64 0]) ∧ Below w.heap.size w W ∧ AccI W w' v ((flatL.take n).map (place (kMid c) (kFlats c))) := by
  obtain ⟨k0, k1⟩ := kMid_bd h1 h9
  obtain ⟨_, _, l0, l1⟩ := kLow_bd h1 h9
  go_enter Try.func21, Try.ntmps21
  go_wp2_with (go_at_call 33; refine (of_ok _ _ h1 h9).mono ?_; rintro e w1 ⟨rfl, hb⟩; have hz := hb.size; obtain ⟨hc, hf⟩ := bcell hb)
  go_region
  all_goals go_wp2
  go_region
  all_goals go_wp2
  have hbW : Below w.heap.size w (World.drew (World.drew (World.alloc (World.alloc (World.alloc w1 (.cells (kindL c).toArray 63)) (.cells (ints sharpL).toArray 3)) (.cells (ints flatL).toArray 3)))) := (((hb.alloc hz _).alloc (by simp; omega) _).alloc (by simp; omega) _).drew.drew
  have hrW : Rd (World.drew (World.drew (World.alloc (World.alloc (World.alloc w1 (.cells (kindL c).toArray 63)) (.cells (ints sharpL).toArray 3)) (.cells (ints flatL).toArray 3)))) (w1.heap.size + 1 + 1 + 1) (some ⟨w1.heap.size + 1 + 1, 0, none⟩) (ints flatL) := by
    have := rd_new (World.alloc (World.alloc w1 (.cells (kindL c).toArray 63)) (.cells (ints sharpL).toArray 3)) (ints flatL) 3
    rw [World.size_alloc, World.size_alloc] at this
    exact this
  have hcW : (World.drew (World.drew (World.alloc (World.alloc (World.alloc w1 (.cells (kindL c).toArray 63)) (.cells (ints sharpL).toArray 3)) (.cells (ints flatL).toArray 3)))).cell? ⟨w1.heap.size, 4, none⟩ = some (.int .i64 (kMid c)) :=
    (Below.cell (B := w1.heap.size + 1) ((((Below.refl _ (World.alloc w1 (.cells (kindL c).toArray 63))).alloc (by first | (simp; done) | (simp; omega)) _).alloc (by first | (simp; done) | (simp; omega)) _).drew.drew) (by simp)).trans (by simp [kindL])
  have hsW : (World.drew (World.drew (World.alloc (World.alloc (World.alloc w1 (.cells (kindL c).toArray 63)) (.cells (ints sharpL).toArray 3)) (.cells (ints flatL).toArray 3)))).heap.size = w1.heap.size + 1 + 1 + 1 := by simp
  simp only [kindL, ints, sharpL, flatL, List.map_cons, List.map_nil] at hbW hrW hcW hsW
  generalize hW : World.drew (World.drew (World.alloc (World.alloc (World.alloc w1 _) _) _)) = W at *
  clear hW
  clear hc hf
  go_loopw [10, 44] (fun v i wr => ∃ k : Nat, k ≤ n ∧ i = .int .i64 (k : Int) ∧ AccI W wr v ((flatL.take k).map (place (kMid c) (kFlats c)))) (fun _ i _ => n - (intOf i).toNat)
  case atStart => exact ⟨0, Nat.zero_le _, rfl, accI_nil _⟩
  case round =>
    obtain ⟨k, hk, rfl, hacc⟩ := hrel
    by_cases hlt : k < n
    · have hk7 : k < flatL.length := Nat.lt_of_lt_of_le hlt hn
      have hs0 : 0 ≤ flatL[k] ∧ flatL[k] ≤ 6 := stepL_bd (.inr rfl) hk7
      obtain ⟨s0, s6⟩ := hs0
      have hcs : wr.cell? ⟨w1.heap.size + 1 + 1, k, none⟩ = some (.int .i64 flatL[k]) := by
        have h := rd_at hrW (ints_at hk7)
        rw [Nat.zero_add] at h
        exact (hacc.below.cell (p := ⟨w1.heap.size + 1 + 1, k, none⟩) (by simp; omega)).trans h
      have hcm : wr.cell? ⟨w1.heap.size, 4, none⟩ = some (.int .i64 (kMid c)) := (hacc.below.cell (p := ⟨w1.heap.size, 4, none⟩) (by simp; omega)).trans hcW
      have hstep : (flatL.take (k + 1)).map (place (kMid c) (kFlats c)) = (flatL.take k).map (place (kMid c) (kFlats c)) ++ [place (kMid c) (kFlats c) flatL[k]] := by
        rw [List.take_succ_eq_append_getElem hk7, List.map_append, List.map_singleton]
      have Hstep := Lib.hid hstep
      clear hstep
      have hdl : ((flatL.take k).map (place (kMid c) (kFlats c))).length ≤ 7 := by simp; omega
      generalize hdone : (flatL.take k).map (place (kMid c) (kFlats c)) = done at *
      generalize hs : flatL[k] = s at *
      clear hdone hs
      have i0 : (k : Int) < (n : Int) := by omega
      have i1 : (0 : Int) ≤ (k : Int) := by omega
      go_wp2
      go_loopw [10, 13] (fun v p wr => ∃ j : Nat, j ≤ 7 ∧ p = .int .i64 (kFlats c + (j : Int)) ∧ AccI W wr v (done ++ part (kMid c) (kFlats c) s j)) (fun _ p _ => (kFlats c + 7 - intOf p).toNat)
      case atStart => exact ⟨0, by omega, by simp, by rw [part_zero]; simpa using hacc⟩
      case round =>
        clear hacc hcs hcm
        obtain ⟨j, hj, rfl, hacc⟩ := hrel
        have hcm : wr.cell? ⟨w1.heap.size, 4, none⟩ = some (.int .i64 (kMid c)) := (hacc.below.cell (p := ⟨w1.heap.size, 4, none⟩) (by simp; omega)).trans hcW
        have hpl := part_len (kMid c) (kFlats c) s j
        by_cases hj7 : j < 7
        · have j0 : kFlats c + (j : Int) < kFlats c + 7 := by omega
          by_cases hit : kFlats c + (j : Int) = place (kMid c) (kFlats c) s
          · have ht : ((kMid c + (kFlats c + (j : Int)) + 7) % 7 == s) = true := beq_iff_eq.2 ((place_iff _ _ _ _ s0 s6 (by omega) (by omega)).2 hit)
            obtain ⟨e1, e2⟩ := part_hit hit
            rw [e1] at hacc
            have E2 := Lib.hid e2
            clear e1 e2 hit
            go_wp2_with ((at_builtin; refine wpList_pushI rfl _ _ rfl (kFlats c + (j : Int)) hacc (by rfl) (by rfl) (by simp; omega) ?_; intro v' w1 hacc'))
            go_roundw
            case rel => exact ⟨j + 1, by omega, by go_num, by rw [E2.out]; simpa using hacc'⟩
            case measure => simp [intOf]; omega
          · have ht : ((kMid c + (kFlats c + (j : Int)) + 7) % 7 == s) = false := beq_eq_false_iff_ne.2 fun h => hit ((place_iff _ _ _ _ s0 s6 (by omega) (by omega)).1 h)
            have e2 := part_miss hit
            rw [← e2] at hacc
            clear e2 hit
            go_wp2
            go_roundw
            case rel => exact ⟨j + 1, by omega, by go_num, hacc⟩
            case measure => simp [intOf]; omega
        · obtain rfl : j = 7 := by omega
          rw [part_seven, ← Hstep.out] at hacc
          go_wp2
          go_roundw
          case rel => exact ⟨k + 1, by omega, by go_num, hacc⟩
          case measure => simp [intOf]; omega
    · obtain rfl : k = n := by omega
      go_wp2
      go_returns
      exact ⟨_, W, rfl, hbW, hacc⟩

theorem csig_kind (c f : Int) (w : World) (h : c < 1 ∨ 9 < c) :
    Calls Try.prog 21 #[.int .i64 c, .int .i64 f] w fun e w' => e = .returned (.tuple #[.slice none 0 0, .int .i64 11]) ∧ Below w.heap.size w w' := by
  go_enter Try.func21, Try.ntmps21
  go_wp2_with (go_at_call 33; refine (of_bad _ _ h).mono ?_; rintro e w1 ⟨rfl, hb⟩; have hz := hb.size)
  go_returns
  exact ⟨rfl, by go_grown⟩

theorem csig_range (c f : Int) (w : World) (h1 : 1 ≤ c) (h9 : c ≤ 9) (h : f < -7 ∨ 7 < f) :
    Calls Try.prog 21 #[.int .i64 c, .int .i64 f] w fun e w' => e = .returned (.tuple #[.slice none 0 0, .int .i64 2]) ∧ Below w.heap.size w w' := by
  rcases h with h | h
  · go_enter Try.func21, Try.ntmps21
    go_wp2_with (go_at_call 33; refine (of_ok _ _ h1 h9).mono ?_; rintro e w1 ⟨rfl, hb⟩; have hz := hb.size)
    go_returns
    exact ⟨rfl, by go_grown⟩
  · have h' : -7 ≤ f := by omega
    go_enter Try.func21, Try.ntmps21
    go_wp2_with (go_at_call 33; refine (of_ok _ _ h1 h9).mono ?_; rintro e w1 ⟨rfl, hb⟩; have hz := hb.size)
    go_returns
    exact ⟨rfl, by go_grown⟩

end Go.Proofs.Ytdleefphgjnhjaa
