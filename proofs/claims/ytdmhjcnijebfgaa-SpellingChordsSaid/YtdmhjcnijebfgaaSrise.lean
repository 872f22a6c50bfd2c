/- rising of the law: contract. -/
import Derived.Test.YtdmhjcnijebfgaaSchd
namespace Go.Proofs.Ytdmhjcnijebfgaa
open Go.RowKit
set_option linter.unusedVariables false

/-- The numbers that rise, of the first k. -/
def risT (l : List Int) : Nat → List Int
  | 0 => []
  | k + 1 => if (risT l k).length = 0 ∨ (risT l k).getD ((risT l k).length - 1) 0 < l.getD k 0 then risT l k ++ [l.getD k 0] else risT l k
theorem risT_add {l : List Int} {k : Nat} (h : (risT l k).length = 0 ∨ (risT l k).getD ((risT l k).length - 1) 0 < l.getD k 0) : risT l (k + 1) = risT l k ++ [l.getD k 0] := if_pos h
theorem risT_not {l : List Int} {k : Nat} (h : ¬ ((risT l k).length = 0 ∨ (risT l k).getD ((risT l k).length - 1) 0 < l.getD k 0)) : risT l (k + 1) = risT l k := if_neg h
theorem risT_len (l : List Int) : ∀ k, (risT l k).length ≤ k := by
  intro k
  induction k with
  | zero => exact Nat.le_refl _
  | succ k ih =>
    by_cases h : (risT l k).length = 0 ∨ (risT l k).getD ((risT l k).length - 1) 0 < l.getD k 0
    · rw [risT_add h, List.length_append]; simp; exact ih
    · rw [risT_not h]; omega
theorem risT_mem (l : List Int) : ∀ k, k ≤ l.length → ∀ n ∈ risT l k, n ∈ l := by
  intro k
  induction k with
  | zero => intro _ n hn; cases hn
  | succ k ih =>
    intro hk n hn
    by_cases h : (risT l k).length = 0 ∨ (risT l k).getD ((risT l k).length - 1) 0 < l.getD k 0
    · rw [risT_add h] at hn
      rcases List.mem_append.1 hn with hn | hn
      · exact ih (by omega) n hn
      · rw [List.mem_singleton.1 hn]; exact getD_memL l 0 (by omega)
    · rw [risT_not h] at hn
      exact ih (by omega) n hn
theorem risT_rise (l : List Int) : ∀ k, riseI (risT l k) := by
  intro k
  induction k with
  | zero => intro i hi; cases hi
  | succ k ih =>
    by_cases h : (risT l k).length = 0 ∨ (risT l k).getD ((risT l k).length - 1) 0 < l.getD k 0
    · rw [risT_add h]
      intro i hi
      rw [List.length_append] at hi
      have hi' : i + 1 < (risT l k).length + 1 := hi
      rw [getD_snoc _ _ 0 i (by omega), getD_snoc _ _ 0 (i + 1) (by omega), if_pos (by omega)]
      split
      · rename_i h1
        exact ih i h1
      · rename_i h1
        have e : i = (risT l k).length - 1 := by omega
        rcases h with h | h
        · omega
        · rw [e]; exact h
    · rw [risT_not h]
      exact ih
def RisPost (l : List Int) (w : World) (e : Ending) (w' : World) : Prop := ∃ v, e = .returned v ∧ AccI w w' v (risT l l.length)
set_option maxHeartbeats 4000000 in
theorem rising_any (A : Option Addr) (c : Nat) (l : List Int) (most : Nat) (w : World) (hc : l.length ≤ maxLen) (hm : most ≤ 1000) (hrd : Rd w w.heap.size A (ints l)) :
    Calls Try.prog 24 #[.slice A l.length c, .int .i64 (most : Int)] w (RisPost (numL l most) w) := by
  have cn := numbers_any A c l most w hc hm hrd
  have hNl := numL_len l most
  clear hrd hc
  generalize numL l most = N at *
  go_enter Try.func24, Try.ntmps24
  go_wp2_with fail
  refine cn.mono ?_
  rintro e w1 ⟨v, rfl, ha⟩
  obtain ⟨A1, c1, hv, _, _, hr1⟩ := acc_form ha
  have hb1 := ha.below
  subst hv
  have HR1 := Lib.hid hr1
  clear ha hr1 cn
  go_wp2_with fail
  go_loopw [5, 6] (fun v i wr => ∃ k : Nat, k ≤ N.length ∧ i = .int .i64 (k : Int) ∧ AccI w1 wr v (risT N k)) (fun _ i _ => N.length - (intOf i).toNat)
  case atStart => exact ⟨0, by omega, rfl, accI_nil _⟩
  case round =>
    obtain ⟨k, hk, rfl, hacc⟩ := hrel
    by_cases hlt : k < N.length
    · have k0 : (0 : Int) ≤ (k : Int) := by omega
      have k1 : (k : Int) < (N.length : Int) := by omega
      obtain ⟨b, off, rfl, hlb, q0⟩ := rdI HR1.out hlt
      have hlw : b < wr.heap.size := Nat.lt_of_lt_of_le hlb hacc.below.size
      have c0 := (hacc.below.cell (p := ⟨b, off + k, none⟩) hlb).trans q0
      have f0 : ∀ sx : Later wr.heap.size wr, sx.w.cell? ⟨b, off + k, none⟩ = some (.int .i64 (N.getD k 0)) := fun sx => later_cell c0 hlw sx
      have Hadd := Lib.hid (fun h => risT_add (l := N) (k := k) h)
      have Hnot := Lib.hid (fun h => risT_not (l := N) (k := k) h)
      have hl6 : (risT N k).length ≤ 60000 := by have := risT_len N k; omega
      obtain ⟨A5, c5, hv, _, _, hr5⟩ := acc_form hacc
      subst hv
      clear q0
      generalize risT N k = D at *
      by_cases hz : D.length = 0
      · have hD : D = [] := List.eq_nil_of_length_eq_zero hz
        subst hD
        have HA := Lib.hid (Hadd.out (.inl rfl))
        generalize N.getD k 0 = x at *
        clear Hadd Hnot hr5 hz
        go_wp2_with fail
        refine wp_region_later (by kernel_rfl) (by kernel_rfl) ?_
        repeat (go_big_quiet_step (fail))
        refine wpQuiet_nil ?_
        intro w5 hb5
        have c5 := (hb5.cell (p := ⟨b, off + k, none⟩) hlw).trans c0
        have hacc5 := acc_below hacc hb5
        clear f0 c0
        go_wp2_with (at_builtin; refine wpList_pushI rfl _ _ rfl x hacc5 (by rfl) (by rfl) hl6 ?_; intro v' w3 hacc3)
        go_roundw
        case rel => exact ⟨k + 1, by omega, by go_num, by rw [HA.out]; exact hacc3⟩
        case measure => simp [intOf]; omega
      · have hz' : ((D.length : Int) == 0) = false := by rw [beq_eq_false_iff_ne]; omega
        have d0 : (0 : Int) ≤ (D.length : Int) - 1 := by omega
        have d1 : (D.length : Int) - 1 < (D.length : Int) := by omega
        obtain ⟨n, hn⟩ : ∃ n, D.length = n + 1 := ⟨D.length - 1, by omega⟩
        obtain ⟨b5, off5, rfl, hlb5, q5⟩ := rdI hr5 (k := n) (by omega)
        have f5 : ∀ sx : Later wr.heap.size wr, sx.w.cell? ⟨b5, off5 + n, none⟩ = some (.int .i64 (D.getD n 0)) := fun sx => later_cell q5 hlb5 sx
        have HA := Lib.hid (fun (h : D.getD n 0 < N.getD k 0) => Hadd.out (.inr (by rw [hn, Nat.add_sub_cancel]; exact h)))
        have HN := Lib.hid (fun (h : ¬ D.getD n 0 < N.getD k 0) => Hnot.out (fun h' => by
          rcases h' with h' | h'
          · omega
          · rw [hn, Nat.add_sub_cancel] at h'; exact h h'))
        generalize N.getD k 0 = x at *
        generalize D.getD n 0 = y at *
        have z1 : ((n : Int) + 1 == 0) = false := by rw [beq_eq_false_iff_ne]; omega
        have z2 : IntKind.i64.wrap ((n : Int) + 1 - 1) = (n : Int) := by rw [show (n : Int) + 1 - 1 = (n : Int) from by omega]; exact IntWalk.i64_in _ (by omega)
        have z3 : (0 : Int) ≤ (n : Int) := by omega
        have z4 : (n : Int) < (n : Int) + 1 := by omega
        clear hz hz' d0 d1 Hadd Hnot hr5 q5
        by_cases hxy : y < x
        · have HA1 := Lib.hid (HA.out hxy)
          have hl7 : D.length ≤ 60000 := hl6
          clear HA HN
          go_wp2_with fail
          refine wp_region_later (by kernel_rfl) (by kernel_rfl) ?_
          repeat (go_big_quiet_step (fail))
          refine wpQuiet_nil ?_
          intro w5 hb5
          have c5 := (hb5.cell (p := ⟨b, off + k, none⟩) hlw).trans c0
          have hacc5 := acc_below hacc hb5
          clear f0 c0 f5
          go_wp2_with (at_builtin; refine wpList_pushI rfl _ _ rfl x hacc5 (by rfl) (by rfl) hl7 ?_; intro v' w3 hacc3)
          go_roundw
          case rel => exact ⟨k + 1, by omega, by go_num, by rw [HA1.out]; exact hacc3⟩
          case measure => simp [intOf]; omega
        · have HN1 := Lib.hid (HN.out hxy)
          clear HA HN
          go_wp2_with fail
          refine wp_region_later (by kernel_rfl) (by kernel_rfl) ?_
          repeat (go_big_quiet_step (fail))
          refine wpQuiet_nil ?_
          intro w5 hb5
          have c5 := (hb5.cell (p := ⟨b, off + k, none⟩) hlw).trans c0
          have hacc5 := acc_below hacc hb5
          clear f0 c0 f5
          go_wp2
          go_roundw
          case rel => exact ⟨k + 1, by omega, by go_num, by rw [HN1.out, ← hn]; exact hacc5⟩
          case measure => simp [intOf]; omega
    · obtain rfl : k = N.length := by omega
      go_wp2_with fail
      go_returns
      exact ⟨_, rfl, acc_base hb1 hacc⟩
end Go.Proofs.Ytdmhjcnijebfgaa
