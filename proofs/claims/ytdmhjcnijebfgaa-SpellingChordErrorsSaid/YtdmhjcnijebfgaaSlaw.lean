/- The law's own helpers: known, key, numbers, same (at two equal lists): contracts. -/
import Derived.Test.YtdmhjcnijebfgaaSspell
namespace Go.Proofs.Ytdmhjcnijebfgaa
open Go.RowKit
set_option linter.unusedVariables false

theorem spell_known (f : Int) (b : Nat) (w : World) (L : List Pit) (p : Pit) (hf : -7 ≤ f) (hf' : f ≤ 7) (hrd : Rd w w.heap.size (some ⟨b, 0, none⟩) (ints [60, 61, 62])) (hL : bst (cQ f) dQ ([60, 61, 62].map enh) = L) (hl : L.length = 3) (hp : L.getD 1 default = p) :
    Calls Try.prog 12 #[.slice (some ⟨b, 0, none⟩) 3 3, .int .i64 f] w fun e w' => ∃ b' off c, e = .returned (.tuple #[.slice (some ⟨b', off, none⟩) 3 c, .int .i64 0]) ∧ b' < w'.heap.size ∧
      w'.cell? ⟨b', off + 3, none⟩ = some (.int .i64 p.1) ∧ w'.cell? ⟨b', off + 3 + 1, none⟩ = some (.int .i64 p.2.1) ∧ w'.cell? ⟨b', off + 3 + 2, none⟩ = some (.int .i64 p.2.2) ∧ Below w.heap.size w w' := by
  refine (spell_ok (some ⟨b, 0, none⟩) 3 [60, 61, 62] f w hrd (by decide) hf hf' (by decide)).mono ?_
  rw [hL, hl]
  rintro e w' ⟨⟨A', c', rfl, h1, h2, h3⟩, hb⟩
  obtain ⟨b', off, rfl, hlt, g0, g1, g2⟩ := rdP h3 (k := 1) (by omega)
  rw [hp] at g0 g1 g2
  exact ⟨b', off, c', rfl, hlt, g0, g1, g2, hb⟩
theorem known0 : bst (cQ 0) dQ ([60, 61, 62].map enh) = [(0, 0, 4), (0, 1, 4), (1, 0, 4)] := by decide +kernel
theorem known5 : bst (cQ (-5)) dQ ([60, 61, 62].map enh) = [(0, 0, 4), (1, -1, 4), (1, 0, 4)] := by decide +kernel

theorem known_any (w : World) : Calls Try.prog 14 #[] w fun e w' => e = .returned (.bool true) ∧ Below w.heap.size w w' := by
  have k1 := fun (w : World) (b : Nat) h => spell_known 0 b w _ (0, 1, 4) (by decide) (by decide) h known0 rfl rfl
  have k2 := fun (w : World) (b : Nat) h => spell_known (-5) b w _ (1, -1, 4) (by decide) (by decide) h known5 rfl rfl
  have K1 := Lib.hid k1
  have K2 := Lib.hid k2
  clear k1 k2
  go_enter Try.func14, Try.ntmps14
  go_wp2_with fail
  refine (K1.out _ _ (by have := rd_new w (ints [60, 61, 62]) INT; rw [← World.size_alloc w (.cells (ints [60, 61, 62]).toArray INT)] at this; exact this)).mono ?_
  rintro e w1 ⟨b1, o1, c1, rfl, lt1, g0, g1, g2, hb1⟩
  go_wp2_with fail
  refine (K2.out _ _ (by have := rd_new w1 (ints [60, 61, 62]) INT; rw [← World.size_alloc w1 (.cells (ints [60, 61, 62]).toArray INT)] at this; exact this)).mono ?_
  rintro e w2 ⟨b2, o2, c2, rfl, lt2, q0, q1, q2, hb2⟩
  have hb12 := (Below.refl _ w1).alloc (Nat.le_refl _) (.cells (ints [60, 61, 62]).toArray INT)
  have r0 := ((base1 hb2).cell (p := ⟨b1, o1 + 3, none⟩) lt1).trans g0
  have r1 := ((base1 hb2).cell (p := ⟨b1, o1 + 3 + 1, none⟩) lt1).trans g1
  have r2 := ((base1 hb2).cell (p := ⟨b1, o1 + 3 + 2, none⟩) lt1).trans g2
  clear g0 g1 g2
  go_wp2
  go_returns
  exact ⟨rfl, next1 (base1 hb1) hb2⟩

def keyI (n : Int) : Int := min (max n (-7)) 7
theorem keyI_bd (n : Int) : -7 ≤ keyI n ∧ keyI n ≤ 7 := by unfold keyI; omega
theorem key_any (n : Int) (w : World) : Calls Try.prog 13 #[.int .i64 n] w fun e w' => e = .returned (.int .i64 (keyI n)) ∧ w' = w := by
  have hc : (n < -7 ∧ keyI n = -7) ∨ (-7 ≤ n ∧ n ≤ 7 ∧ keyI n = n) ∨ (7 < n ∧ keyI n = 7) := by unfold keyI; omega
  rcases hc with ⟨h, e⟩ | ⟨h, h', e⟩ | ⟨h, e⟩
  all_goals
    have E := Lib.hid e
    clear e
    go_enter Try.func13, Try.ntmps13
    go_wp2
    go_returns
    exact ⟨by rw [E.out]; first | rfl | (simp; omega), rfl⟩
def clampI (n : Int) : Int := min (max n 0) 127
theorem clampI_bd (n : Int) : 0 ≤ clampI n ∧ clampI n ≤ 127 := by unfold clampI; omega
def numL (l : List Int) (most : Nat) : List Int := (l.take most).map clampI
theorem numL_len (l : List Int) (most : Nat) : (numL l most).length ≤ most := by unfold numL; rw [List.length_map, List.length_take]; omega
theorem numL_ok (l : List Int) (most : Nat) : ∀ n ∈ numL l most, 0 ≤ n ∧ n ≤ 127 := by
  intro n hn
  obtain ⟨m, _, rfl⟩ := List.mem_map.1 hn
  exact clampI_bd m
set_option maxHeartbeats 1000000 in
theorem numbers_any (A : Option Addr) (c : Nat) (l : List Int) (most : Nat) (w : World) (hc : l.length ≤ maxLen) (hm : most ≤ 1000) (hrd : Rd w w.heap.size A (ints l)) :
    Calls Try.prog 11 #[.slice A l.length c, .int .i64 (most : Int)] w fun e w' => ∃ v, e = .returned v ∧ AccI w w' v (numL l most) := by
  unfold maxLen at hc
  have Hrd := Lib.hid hrd
  clear hrd
  go_enter Try.func11, Try.ntmps11
  go_wp2_with fail
  go_loopw [5, 6] (fun v i wr => ∃ k : Nat, k ≤ l.length ∧ k ≤ most ∧ i = .int .i64 (k : Int) ∧ AccI w wr v (numL l k)) (fun _ i _ => most - (intOf i).toNat)
  case atStart => exact ⟨0, by omega, by omega, rfl, accI_nil _⟩
  case round =>
    obtain ⟨k, hk, hkm, rfl, hacc⟩ := hrel
    by_cases hlt : k < l.length ∧ k < most
    · obtain ⟨h1, h2⟩ := hlt
      have k0 : (0 : Int) ≤ (k : Int) := by omega
      have k1 : (k : Int) < (l.length : Int) := by omega
      have k2 : (k : Int) < (most : Int) := by omega
      have k3 : decide ((k : Int) < (l.length : Int)) = true := decide_eq_true k1
      obtain ⟨b, off, rfl, hlb, q0⟩ := rdI Hrd.out h1
      have c0 := (hacc.below.cell (p := ⟨b, off + k, none⟩) hlb).trans q0
      have hts : numL l (k + 1) = numL l k ++ [clampI (l.getD k 0)] := by
        unfold numL
        rw [List.take_succ_eq_append_getElem h1, get_getD l 0 h1, List.map_append]
        rfl
      have Hts := Lib.hid hts
      have hlen := numL_len l k
      have hl6 : (numL l k).length ≤ 60000 := by omega
      clear q0 hts
      generalize l.getD k 0 = n at *
      generalize hnl : numL l k = nl at *
      clear hnl
      have hcase : (n < 0 ∧ clampI n = 0) ∨ (0 ≤ n ∧ n ≤ 127 ∧ clampI n = n) ∨ (127 < n ∧ clampI n = 127) := by unfold clampI; omega
      rcases hcase with ⟨hn, e⟩ | ⟨hn, hn', e⟩ | ⟨hn, e⟩
      all_goals
        have E := Lib.hid e
        clear e
      · go_wp2_with (at_builtin; refine wpList_pushI rfl _ _ rfl 0 hacc (by rfl) (by rfl) hl6 ?_; intro v' w3 hacc3)
        go_roundw
        case rel => exact ⟨k + 1, by omega, by omega, by go_num, by rw [Hts.out, E.out]; exact hacc3⟩
        case measure => simp [intOf]; omega
      · go_wp2_with (at_builtin; refine wpList_pushI rfl _ _ rfl n hacc (by rfl) (by rfl) hl6 ?_; intro v' w3 hacc3)
        go_roundw
        case rel => exact ⟨k + 1, by omega, by omega, by go_num, by rw [Hts.out, E.out]; exact hacc3⟩
        case measure => simp [intOf]; omega
      · go_wp2_with (at_builtin; refine wpList_pushI rfl _ _ rfl 127 hacc (by rfl) (by rfl) hl6 ?_; intro v' w3 hacc3)
        go_roundw
        case rel => exact ⟨k + 1, by omega, by omega, by go_num, by rw [Hts.out, E.out]; exact hacc3⟩
        case measure => simp [intOf]; omega
    · have hfin : numL l k = numL l most := by
        unfold numL
        by_cases h1 : k < l.length
        · rw [show k = most from by omega]
        · rw [List.take_of_length_le (by omega), List.take_of_length_le (by omega)]
      have Hfin := Lib.hid hfin
      clear hfin
      by_cases h1 : k < l.length
      · obtain rfl : k = most := by omega
        have k1 : (k : Int) < (l.length : Int) := by omega
        have k3 : decide ((k : Int) < (l.length : Int)) = true := decide_eq_true k1
        clear hlt
        go_wp2_with fail
        go_returns
        exact ⟨_, rfl, hacc⟩
      · have k3 : decide ((k : Int) < (l.length : Int)) = false := decide_eq_false (by omega)
        clear hlt
        go_wp2_with fail
        go_returns
        exact ⟨_, rfl, by rw [← Hfin.out]; exact hacc⟩
set_option maxHeartbeats 1000000 in
theorem same_same (A B : Option Addr) (c d : Nat) (L : List Pit) (w : World) (hA : Rd w w.heap.size A (pitsC L)) (hB : Rd w w.heap.size B (pitsC L)) (hl : L.length ≤ 65536) :
    Calls Try.prog 15 #[.slice A L.length c, .slice B L.length d] w fun e w' => e = .returned (.bool true) ∧ Below w.heap.size w w' := by
  have HA := Lib.hid hA
  have HB := Lib.hid hB
  clear hA hB
  go_enter Try.func15, Try.ntmps15
  go_wp2_with fail
  go_loopw [5] (fun i wr => ∃ k : Nat, k ≤ L.length ∧ i = .int .i64 (k : Int) ∧ Below w.heap.size w wr) (fun i _ => L.length - (intOf i).toNat)
  case atStart => exact ⟨0, Nat.zero_le _, rfl, Below.refl _ _⟩
  case round =>
    obtain ⟨k, hk, rfl, hb⟩ := hrel
    by_cases hlt : k < L.length
    · obtain ⟨b, off, rfl, hlb, q0, q1, q2⟩ := rdP HA.out hlt
      obtain ⟨b', off', rfl, hlb', r0, r1, r2⟩ := rdP HB.out hlt
      have c0 := (hb.cell (p := ⟨b, off + k * 3, none⟩) hlb).trans q0
      have c1 := (hb.cell (p := ⟨b, off + k * 3 + 1, none⟩) hlb).trans q1
      have c2 := (hb.cell (p := ⟨b, off + k * 3 + 2, none⟩) hlb).trans q2
      have d0 := (hb.cell (p := ⟨b', off' + k * 3, none⟩) hlb').trans r0
      have d1 := (hb.cell (p := ⟨b', off' + k * 3 + 1, none⟩) hlb').trans r1
      have d2 := (hb.cell (p := ⟨b', off' + k * 3 + 2, none⟩) hlb').trans r2
      have i0 : (0 : Int) ≤ (k : Int) := by omega
      have i1 : (k : Int) < (L.length : Int) := by omega
      clear q0 q1 q2 r0 r1 r2
      generalize L.getD k default = p at *
      obtain ⟨s, al, o⟩ := p
      dsimp only at c0 c1 c2 d0 d1 d2
      go_wp2
      go_quiet (fail)
      go_wp2
      go_roundw
      case rel => exact ⟨k + 1, by omega, by go_num, below_dn hb _⟩
      case measure => simp [intOf]; omega
    · obtain rfl : k = L.length := by omega
      go_wp2
      go_returns
      exact ⟨rfl, hb⟩
end Go.Proofs.Ytdmhjcnijebfgaa
