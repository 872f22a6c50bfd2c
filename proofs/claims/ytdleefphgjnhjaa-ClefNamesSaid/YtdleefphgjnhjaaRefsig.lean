/- The reference's Steps: contracts. -/
import Derived.Test.YtdleefphgjnhjaaRefc
import Derived.Test.YtdleefphgjnhjaaSig
namespace Go.Proofs.Ytdleefphgjnhjaa
open Go.RowKit
set_option linter.unusedVariables false

/-- v holds the numbers l, in blocks made since w. -/
def Got (w w' : World) (v : Value) (l : List Int) : Prop := ∃ W, Below w.heap.size w W ∧ AccI W w' v l
theorem got_below {w w' : World} {v : Value} {l : List Int} (h : Got w w' v l) : Below w.heap.size w w' := by
  obtain ⟨W, hb, hacc⟩ := h
  exact next0 hb hacc.below
theorem got_form {w w' : World} {v : Value} {l : List Int} (h : Got w w' v l) : ∃ A c, v = .slice A l.length c ∧ l.length ≤ c ∧ c ≤ maxLen ∧ Rd w' w'.heap.size A (ints l) := by
  obtain ⟨W, hb, hacc⟩ := h
  exact acc_form hacc
theorem acc_dn {E : TypeId} {size : Nat} {W w : World} {v : Value} {n : Nat} {xs : List Value} (h : Acc E size W w v n xs) (k : Nat) : Acc E size W (w.drewN k) v n xs := ⟨h.own, below_dn h.below k⟩
theorem flat_of_sharp {k : Nat} (hk : k < flatL.length) : sharpL[6 - k]'(by simp [sharpL]; omega) = flatL[k] := by
  have : k = 0 ∨ k = 1 ∨ k = 2 ∨ k = 3 ∨ k = 4 ∨ k = 5 ∨ k = 6 := by simp [flatL] at hk; omega
  rcases this with rfl | rfl | rfl | rfl | rfl | rfl | rfl <;> rfl

theorem steps_sharp (n : Nat) (w : World) (hn : n ≤ 7) :
    Calls Try.prog 23 #[.int .i64 (n : Int)] w fun e w' => ∃ v, e = .returned v ∧ Got w w' v (sharpL.take n) := by
  go_enter Try.func23, Try.ntmps23
  go_wp2
  have hbW : Below w.heap.size w (World.alloc w (.cells (ints sharpL).toArray 3)) := (Below.refl _ _).alloc (Nat.le_refl _) _
  have hrW := rd_new w (ints sharpL) 3
  have hsW : (World.alloc w (.cells (ints sharpL).toArray 3)).heap.size = w.heap.size + 1 := by simp
  simp only [ints, sharpL, List.map_cons, List.map_nil] at hbW hrW hsW
  generalize hW : World.alloc w _ = W at *
  clear hW
  go_loopw [5, 4] (fun i v wr => ∃ k : Nat, k ≤ n ∧ i = .int .i64 (k : Int) ∧ AccI W wr v (sharpL.take k)) (fun i _ _ => n - (intOf i).toNat)
  case atStart => exact ⟨0, Nat.zero_le _, rfl, accI_nil _⟩
  case round =>
    obtain ⟨k, hk, rfl, hacc⟩ := hrel
    by_cases hlt : k < n
    · have hk7 : k < sharpL.length := Nat.lt_of_lt_of_le hlt hn
      have hcs : wr.cell? ⟨w.heap.size, k, none⟩ = some (.int .i64 sharpL[k]) := by
        have h := rd_at hrW (ints_at (l := sharpL) (k := k) (by simp [sharpL]; omega))
        rw [Nat.zero_add] at h
        have e : sharpL[k]'(by simp [sharpL]; omega) = sharpL[k] := rfl
        rw [← e]
        exact (hacc.below.cell (p := ⟨w.heap.size, k, none⟩) (by simp; omega)).trans h
      have hstep : sharpL.take (k + 1) = sharpL.take k ++ [sharpL[k]] := List.take_succ_eq_append_getElem hk7
      have hln : (sharpL.take k).length ≤ 60000 := by simp; omega
      generalize sharpL[k] = s at *
      have Hstep := Lib.hid hstep
      clear hstep
      have i0 : (k : Int) < (n : Int) := by omega
      have i1 : (0 : Int) ≤ (k : Int) := by omega
      go_wp2_with ((at_builtin; refine wpList_pushI rfl _ _ rfl s hacc (by rfl) (by rfl) hln ?_; intro v' w1 hacc'))
      go_roundw
      case rel => exact ⟨k + 1, by omega, by go_num, by rw [Hstep.out]; exact hacc'⟩
      case measure => simp [intOf]; omega
    · obtain rfl : k = n := by omega
      have i2 : ¬ (k : Int) < (k : Int) := by omega
      go_wp2
      have i3 : (0 : Int) ≤ (k : Int) := by omega
      refine wp_loop_rounds 1 ?_
      rw [rounds_succ]
      go_wp2
      go_returns
      exact ⟨_, rfl, W, hbW, hacc⟩

theorem steps_flat (n : Nat) (w : World) (hn0 : 0 < n) (hn : n ≤ 7) :
    Calls Try.prog 23 #[.int .i64 (-(n : Int))] w fun e w' => ∃ v, e = .returned v ∧ Got w w' v (flatL.take n) := by
  go_enter Try.func23, Try.ntmps23
  go_wp2
  have hbW : Below w.heap.size w (World.alloc w (.cells (ints sharpL).toArray 3)) := (Below.refl _ _).alloc (Nat.le_refl _) _
  have hrW := rd_new w (ints sharpL) 3
  have hsW : (World.alloc w (.cells (ints sharpL).toArray 3)).heap.size = w.heap.size + 1 := by simp
  simp only [ints, sharpL, List.map_cons, List.map_nil] at hbW hrW hsW
  generalize hW : World.alloc w _ = W at *
  clear hW
  have i4 : ¬ (0 : Int) < -(n : Int) := by omega
  refine wp_loop_rounds 1 ?_
  rw [rounds_succ]
  go_wp2
  go_loopw [6, 4] (fun i v wr => ∃ k : Nat, k ≤ n ∧ i = .int .i64 (k : Int) ∧ AccI W wr v (flatL.take k)) (fun i _ _ => n - (intOf i).toNat)
  case atStart => exact ⟨0, Nat.zero_le _, rfl, accI_nil _⟩
  case round =>
    obtain ⟨k, hk, rfl, hacc⟩ := hrel
    by_cases hlt : k < n
    · have hk7 : k < flatL.length := Nat.lt_of_lt_of_le hlt hn
      have hcs : wr.cell? ⟨w.heap.size, (6 - k), none⟩ = some (.int .i64 flatL[k]) := by
        have h := rd_at hrW (ints_at (l := sharpL) (k := (6 - k)) (by simp [sharpL]; omega))
        rw [Nat.zero_add] at h
        have e : sharpL[(6 - k)]'(by simp [sharpL]; omega) = flatL[k] := flat_of_sharp hk7
        rw [← e]
        exact (hacc.below.cell (p := ⟨w.heap.size, (6 - k), none⟩) (by simp; omega)).trans h
      have hstep : flatL.take (k + 1) = flatL.take k ++ [flatL[k]] := List.take_succ_eq_append_getElem hk7
      have hln : (flatL.take k).length ≤ 60000 := by simp; omega
      generalize flatL[k] = s at *
      have Hstep := Lib.hid hstep
      clear hstep
      have i0 : (k : Int) < (n : Int) := by omega
      have i1 : (0 : Int) ≤ (k : Int) := by omega
      have i5 : (6 : Int) - (k : Int) = ((6 - k : Nat) : Int) := by omega
      go_wp2_with ((at_builtin; refine wpList_pushI rfl _ _ rfl s hacc (by rfl) (by rfl) hln ?_; intro v' w1 hacc'))
      go_roundw
      case rel => exact ⟨k + 1, by omega, by go_num, by rw [Hstep.out]; exact hacc'⟩
      case measure => simp [intOf]; omega
    · obtain rfl : k = n := by omega
      go_wp2
      go_returns
      exact ⟨_, rfl, W, hbW, hacc⟩

theorem rplace_iff (m low s p : Int) (h0 : 0 ≤ s) (h6 : s ≤ 6) (hp : low ≤ p) (hp' : p < low + 7) : (p + m) % 7 = s ↔ p = place m low s := by unfold place; omega
theorem kindsA_all (k : Nat) (hk : k < 9) : kindsA[k * 7]? = some (.string (kName ((k : Int) + 1))) ∧ kindsA[k * 7 + 1]? = some (.int .u8 (kLetter ((k : Int) + 1))) ∧ kindsA[k * 7 + 2]? = some (.int .i64 (kLine ((k : Int) + 1))) ∧
    kindsA[k * 7 + 3]? = some (.int .i64 (kOct ((k : Int) + 1))) ∧ kindsA[k * 7 + 4]? = some (.int .i64 (kMid ((k : Int) + 1))) ∧ kindsA[k * 7 + 5]? = some (.int .i64 (kSharps ((k : Int) + 1))) ∧ kindsA[k * 7 + 6]? = some (.int .i64 (kFlats ((k : Int) + 1))) := by
  have : k = 0 ∨ k = 1 ∨ k = 2 ∨ k = 3 ∨ k = 4 ∨ k = 5 ∨ k = 6 ∨ k = 7 ∨ k = 8 := by omega
  rcases this with rfl | rfl | rfl | rfl | rfl | rfl | rfl | rfl | rfl <;> exact ⟨rfl, rfl, rfl, rfl, rfl, rfl, rfl⟩

theorem rsig_sharp (k n : Nat) (w : World) (hk : k < 9) (hn : n ≤ 7) :
    Calls Try.prog 22 #[.int .i64 ((k : Int) + 1), .int .i64 (n : Int)] w fun e w' => ∃ v, e = .returned v ∧ Got w w' v ((sharpL.take n).map (place (kMid ((k : Int) + 1)) (kSharps ((k : Int) + 1)))) := by
  obtain ⟨k0, k1⟩ := kMid_bd (c := (k : Int) + 1) (by omega) (by omega)
  obtain ⟨l0, l1, l2, l3⟩ := kLow_bd (c := (k : Int) + 1) (by omega) (by omega)
  obtain ⟨a0, a1, a2, a3, a4, a5, a6⟩ := kindsA_all k hk
  have i0 : (0 : Int) ≤ (k : Int) := by omega
  have i1 : (k : Int) < 9 := by omega
  have hlen : (sharpL.take n).length = n := by simp [sharpL]; omega
  have Hlen := Lib.hid hlen
  clear hlen
  go_enter Try.func22, Try.ntmps22
  go_wp2_with (first
    | (go_at_call 27; refine (clefs_any _).mono ?_; rintro e w1 ⟨rfl, rfl⟩)
    | (go_at_call 23; refine (steps_sharp n _ hn).mono ?_; rintro e w2 ⟨v, rfl, hgot⟩; have hb2 := got_below hgot; have hz2 := hb2.size; simp only [World.size_alloc] at hz2; have cm : w2.cell? ⟨w.heap.size + 1, 4, none⟩ = some (.int .i64 (kMid ((k : Int) + 1))) := (hb2.cell (p := ⟨w.heap.size + 1, 4, none⟩) (by simp)).trans (by simp); obtain ⟨A, cc, hv, hcc, _, hrd⟩ := got_form hgot; rw [Hlen.out] at hv hcc; subst hv; clear hgot))
  clear a0 a1 a2 a3 a4 a5 a6
  have hbw := base2 hb2
  clear hb2
  go_loopw [8, 9] (fun v i wr => ∃ t : Nat, t ≤ n ∧ i = .int .i64 (t : Int) ∧ AccI w2 wr v ((sharpL.take t).map (place (kMid ((k : Int) + 1)) (kSharps ((k : Int) + 1))))) (fun _ i _ => n - (intOf i).toNat)
  case atStart => exact ⟨0, Nat.zero_le _, rfl, accI_nil _⟩
  case round =>
    obtain ⟨t, ht, rfl, hacc⟩ := hrel
    by_cases hlt : t < n
    · have ht7 : t < sharpL.length := Nat.lt_of_lt_of_le hlt hn
      have hs0 : 0 ≤ sharpL[t] ∧ sharpL[t] ≤ 6 := stepL_bd (.inl rfl) ht7
      obtain ⟨s0, s6⟩ := hs0
      obtain ⟨b, off, rfl, hbl, hcell⟩ := rd_pos hrd (by simp [sharpL]; omega)
      have hcs : w2.cell? ⟨b, off + t, none⟩ = some (.int .i64 sharpL[t]) := hcell t _ (by
        have : (sharpL.take n)[t]'(by rw [Hlen.out]; exact hlt) = sharpL[t] := List.getElem_take
        rw [← this]
        exact ints_at (by rw [Hlen.out]; exact hlt))
      clear hcell
      have hstep : (sharpL.take (t + 1)).map (place (kMid ((k : Int) + 1)) (kSharps ((k : Int) + 1))) = (sharpL.take t).map (place (kMid ((k : Int) + 1)) (kSharps ((k : Int) + 1))) ++ [place (kMid ((k : Int) + 1)) (kSharps ((k : Int) + 1)) sharpL[t]] := by
        rw [List.take_succ_eq_append_getElem ht7, List.map_append, List.map_singleton]
      have Hstep := Lib.hid hstep
      clear hstep
      have hdl : ((sharpL.take t).map (place (kMid ((k : Int) + 1)) (kSharps ((k : Int) + 1)))).length ≤ 7 := by simp; omega
      generalize hdone : (sharpL.take t).map (place (kMid ((k : Int) + 1)) (kSharps ((k : Int) + 1))) = done at *
      generalize hs : sharpL[t] = s at *
      clear hdone hs
      have i2 : (t : Int) < (n : Int) := by omega
      have i3 : (0 : Int) ≤ (t : Int) := by omega
      go_wp2
      go_loopw [8, 10] (fun v p wr => ∃ j : Nat, j ≤ 7 ∧ p = .int .i64 (kSharps ((k : Int) + 1) + (j : Int)) ∧ AccI w2 wr v (done ++ part (kMid ((k : Int) + 1)) (kSharps ((k : Int) + 1)) s j)) (fun _ p _ => (kSharps ((k : Int) + 1) + 7 - intOf p).toNat)
      case atStart => exact ⟨0, by omega, by simp, by rw [part_zero]; simpa using hacc⟩
      case round =>
        clear hacc
        obtain ⟨j, hj, rfl, hacc⟩ := hrel
        have cm' : wr.cell? ⟨w.heap.size + 1, 4, none⟩ = some (.int .i64 (kMid ((k : Int) + 1))) := (hacc.below.cell (p := ⟨w.heap.size + 1, 4, none⟩) (by simp; omega)).trans cm
        have cs' : wr.cell? ⟨b, off + t, none⟩ = some (.int .i64 s) := (hacc.below.cell (p := ⟨b, off + t, none⟩) hbl).trans hcs
        have hpl := part_len (kMid ((k : Int) + 1)) (kSharps ((k : Int) + 1)) s j
        by_cases hj7 : j < 7
        · have j0 : kSharps ((k : Int) + 1) + (j : Int) < kSharps ((k : Int) + 1) + 7 := by omega
          have e1 : IntKind.i64.wrap (kSharps ((k : Int) + 1) + (j : Int) + kMid ((k : Int) + 1)) = kSharps ((k : Int) + 1) + (j : Int) + kMid ((k : Int) + 1) := IntWalk.i64_in _ (by omega)
          have e2 : (kSharps ((k : Int) + 1) + (j : Int) + kMid ((k : Int) + 1)).tmod 7 = (kSharps ((k : Int) + 1) + (j : Int) + kMid ((k : Int) + 1)) % 7 := Int.tmod_eq_emod_of_nonneg (by omega)
          by_cases hit : kSharps ((k : Int) + 1) + (j : Int) = place (kMid ((k : Int) + 1)) (kSharps ((k : Int) + 1)) s
          · have ht : ((kSharps ((k : Int) + 1) + (j : Int) + kMid ((k : Int) + 1)) % 7 == s) = true := beq_iff_eq.2 ((rplace_iff _ _ _ _ s0 s6 (by omega) (by omega)).2 hit)
            obtain ⟨p1, p2⟩ := part_hit hit
            rw [p1] at hacc
            have P2 := Lib.hid p2
            clear p1 p2 hit
            go_wp2
            go_quiet (fail)
            go_wp2_with ((at_builtin; refine wpList_pushI rfl _ _ rfl (kSharps ((k : Int) + 1) + (j : Int)) (acc_dn hacc _) (by rfl) (by rfl) (by simp; omega) ?_; intro v' w1 hacc'))
            go_roundw
            case rel => exact ⟨j + 1, by omega, by go_num, by rw [P2.out]; simpa using hacc'⟩
            case measure => simp [intOf]; omega
          · have ht : ((kSharps ((k : Int) + 1) + (j : Int) + kMid ((k : Int) + 1)) % 7 == s) = false := beq_eq_false_iff_ne.2 fun h => hit ((rplace_iff _ _ _ _ s0 s6 (by omega) (by omega)).1 h)
            have p2 := part_miss hit
            rw [← p2] at hacc
            clear p2 hit
            go_wp2
            go_quiet (fail)
            go_wp2
            go_roundw
            case rel => exact ⟨j + 1, by omega, by go_num, acc_dn hacc _⟩
            case measure => simp [intOf]; omega
        · obtain rfl : j = 7 := by omega
          rw [part_seven, ← Hstep.out] at hacc
          go_wp2
          go_roundw
          case rel => exact ⟨t + 1, by omega, by go_num, hacc⟩
          case measure => simp [intOf]; omega
    · obtain rfl : t = n := by omega
      go_wp2
      go_returns
      exact ⟨_, rfl, w2, hbw, hacc⟩

theorem rsig_flat (k n : Nat) (w : World) (hk : k < 9) (hn0 : 0 < n) (hn : n ≤ 7) :
    Calls Try.prog 22 #[.int .i64 ((k : Int) + 1), .int .i64 (-(n : Int))] w fun e w' => ∃ v, e = .returned v ∧ Got w w' v ((flatL.take n).map (place (kMid ((k : Int) + 1)) (kFlats ((k : Int) + 1)))) := by
  obtain ⟨k0, k1⟩ := kMid_bd (c := (k : Int) + 1) (by omega) (by omega)
  obtain ⟨l0, l1, l2, l3⟩ := kLow_bd (c := (k : Int) + 1) (by omega) (by omega)
  obtain ⟨a0, a1, a2, a3, a4, a5, a6⟩ := kindsA_all k hk
  have i0 : (0 : Int) ≤ (k : Int) := by omega
  have i1 : (k : Int) < 9 := by omega
  have hlen : (flatL.take n).length = n := by simp [flatL]; omega
  have Hlen := Lib.hid hlen
  clear hlen
  go_enter Try.func22, Try.ntmps22
  go_wp2_with (first
    | (go_at_call 27; refine (clefs_any _).mono ?_; rintro e w1 ⟨rfl, rfl⟩)
    | (go_at_call 23; refine (steps_flat n _ hn0 hn).mono ?_; rintro e w2 ⟨v, rfl, hgot⟩; have hb2 := got_below hgot; have hz2 := hb2.size; simp only [World.size_alloc] at hz2; have cm : w2.cell? ⟨w.heap.size + 1, 4, none⟩ = some (.int .i64 (kMid ((k : Int) + 1))) := (hb2.cell (p := ⟨w.heap.size + 1, 4, none⟩) (by simp)).trans (by simp); obtain ⟨A, cc, hv, hcc, _, hrd⟩ := got_form hgot; rw [Hlen.out] at hv hcc; subst hv; clear hgot))
  clear a0 a1 a2 a3 a4 a5 a6
  have hbw := base2 hb2
  clear hb2
  go_loopw [8, 9] (fun v i wr => ∃ t : Nat, t ≤ n ∧ i = .int .i64 (t : Int) ∧ AccI w2 wr v ((flatL.take t).map (place (kMid ((k : Int) + 1)) (kFlats ((k : Int) + 1))))) (fun _ i _ => n - (intOf i).toNat)
  case atStart => exact ⟨0, Nat.zero_le _, rfl, accI_nil _⟩
  case round =>
    obtain ⟨t, ht, rfl, hacc⟩ := hrel
    by_cases hlt : t < n
    · have ht7 : t < flatL.length := Nat.lt_of_lt_of_le hlt hn
      have hs0 : 0 ≤ flatL[t] ∧ flatL[t] ≤ 6 := stepL_bd (.inr rfl) ht7
      obtain ⟨s0, s6⟩ := hs0
      obtain ⟨b, off, rfl, hbl, hcell⟩ := rd_pos hrd (by simp [flatL]; omega)
      have hcs : w2.cell? ⟨b, off + t, none⟩ = some (.int .i64 flatL[t]) := hcell t _ (by
        have : (flatL.take n)[t]'(by rw [Hlen.out]; exact hlt) = flatL[t] := List.getElem_take
        rw [← this]
        exact ints_at (by rw [Hlen.out]; exact hlt))
      clear hcell
      have hstep : (flatL.take (t + 1)).map (place (kMid ((k : Int) + 1)) (kFlats ((k : Int) + 1))) = (flatL.take t).map (place (kMid ((k : Int) + 1)) (kFlats ((k : Int) + 1))) ++ [place (kMid ((k : Int) + 1)) (kFlats ((k : Int) + 1)) flatL[t]] := by
        rw [List.take_succ_eq_append_getElem ht7, List.map_append, List.map_singleton]
      have Hstep := Lib.hid hstep
      clear hstep
      have hdl : ((flatL.take t).map (place (kMid ((k : Int) + 1)) (kFlats ((k : Int) + 1)))).length ≤ 7 := by simp; omega
      generalize hdone : (flatL.take t).map (place (kMid ((k : Int) + 1)) (kFlats ((k : Int) + 1))) = done at *
      generalize hs : flatL[t] = s at *
      clear hdone hs
      have i2 : (t : Int) < (n : Int) := by omega
      have i3 : (0 : Int) ≤ (t : Int) := by omega
      go_wp2
      go_loopw [8, 10] (fun v p wr => ∃ j : Nat, j ≤ 7 ∧ p = .int .i64 (kFlats ((k : Int) + 1) + (j : Int)) ∧ AccI w2 wr v (done ++ part (kMid ((k : Int) + 1)) (kFlats ((k : Int) + 1)) s j)) (fun _ p _ => (kFlats ((k : Int) + 1) + 7 - intOf p).toNat)
      case atStart => exact ⟨0, by omega, by simp, by rw [part_zero]; simpa using hacc⟩
      case round =>
        clear hacc
        obtain ⟨j, hj, rfl, hacc⟩ := hrel
        have cm' : wr.cell? ⟨w.heap.size + 1, 4, none⟩ = some (.int .i64 (kMid ((k : Int) + 1))) := (hacc.below.cell (p := ⟨w.heap.size + 1, 4, none⟩) (by simp; omega)).trans cm
        have cs' : wr.cell? ⟨b, off + t, none⟩ = some (.int .i64 s) := (hacc.below.cell (p := ⟨b, off + t, none⟩) hbl).trans hcs
        have hpl := part_len (kMid ((k : Int) + 1)) (kFlats ((k : Int) + 1)) s j
        by_cases hj7 : j < 7
        · have j0 : kFlats ((k : Int) + 1) + (j : Int) < kFlats ((k : Int) + 1) + 7 := by omega
          have e1 : IntKind.i64.wrap (kFlats ((k : Int) + 1) + (j : Int) + kMid ((k : Int) + 1)) = kFlats ((k : Int) + 1) + (j : Int) + kMid ((k : Int) + 1) := IntWalk.i64_in _ (by omega)
          have e2 : (kFlats ((k : Int) + 1) + (j : Int) + kMid ((k : Int) + 1)).tmod 7 = (kFlats ((k : Int) + 1) + (j : Int) + kMid ((k : Int) + 1)) % 7 := Int.tmod_eq_emod_of_nonneg (by omega)
          by_cases hit : kFlats ((k : Int) + 1) + (j : Int) = place (kMid ((k : Int) + 1)) (kFlats ((k : Int) + 1)) s
          · have ht : ((kFlats ((k : Int) + 1) + (j : Int) + kMid ((k : Int) + 1)) % 7 == s) = true := beq_iff_eq.2 ((rplace_iff _ _ _ _ s0 s6 (by omega) (by omega)).2 hit)
            obtain ⟨p1, p2⟩ := part_hit hit
            rw [p1] at hacc
            have P2 := Lib.hid p2
            clear p1 p2 hit
            go_wp2
            go_quiet (fail)
            go_wp2_with ((at_builtin; refine wpList_pushI rfl _ _ rfl (kFlats ((k : Int) + 1) + (j : Int)) (acc_dn hacc _) (by rfl) (by rfl) (by simp; omega) ?_; intro v' w1 hacc'))
            go_roundw
            case rel => exact ⟨j + 1, by omega, by go_num, by rw [P2.out]; simpa using hacc'⟩
            case measure => simp [intOf]; omega
          · have ht : ((kFlats ((k : Int) + 1) + (j : Int) + kMid ((k : Int) + 1)) % 7 == s) = false := beq_eq_false_iff_ne.2 fun h => hit ((rplace_iff _ _ _ _ s0 s6 (by omega) (by omega)).1 h)
            have p2 := part_miss hit
            rw [← p2] at hacc
            clear p2 hit
            go_wp2
            go_quiet (fail)
            go_wp2
            go_roundw
            case rel => exact ⟨j + 1, by omega, by go_num, acc_dn hacc _⟩
            case measure => simp [intOf]; omega
        · obtain rfl : j = 7 := by omega
          rw [part_seven, ← Hstep.out] at hacc
          go_wp2
          go_roundw
          case rel => exact ⟨t + 1, by omega, by go_num, hacc⟩
          case measure => simp [intOf]; omega
    · obtain rfl : t = n := by omega
      go_wp2
      go_returns
      exact ⟨_, rfl, w2, hbw, hacc⟩

end Go.Proofs.Ytdleefphgjnhjaa
