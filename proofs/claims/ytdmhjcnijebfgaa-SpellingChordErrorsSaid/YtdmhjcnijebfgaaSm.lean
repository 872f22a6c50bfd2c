/- Plain law of spelling, no program in sight: pitches, their numbers and places, the pitches with a number. -/
import Derived.Test.YtdmhjcnijebfgaaSdp
namespace Go.Proofs.Ytdmhjcnijebfgaa
set_option linter.unusedVariables false

/-- A pitch: its step, its alteration, its octave. -/
abbrev Pit : Type := Int × Int × Int
def semi (s : Int) : Int := ([0, 2, 4, 5, 7, 9, 11] : List Int).getD s.toNat 0
def fifS (s : Int) : Int := ([0, 2, 4, -1, 1, 3, 5] : List Int).getD s.toNat 0
def num (s al o : Int) : Int := 12 * (o + 1) + semi s + al
def inR (s al o : Int) : Prop := 0 ≤ s ∧ s ≤ 6 ∧ -2 ≤ al ∧ al ≤ 2 ∧ -1 ≤ o ∧ o ≤ 9
instance (s al o : Int) : Decidable (inR s al o) := by unfold inR; exact inferInstance
def okP (s al o : Int) : Prop := inR s al o ∧ 0 ≤ num s al o ∧ num s al o ≤ 127
instance (s al o : Int) : Decidable (okP s al o) := by unfold okP; exact inferInstance
def fif (s al : Int) : Int := fifS s + 7 * al
def okQ (p : Pit) : Prop := okP p.1 p.2.1 p.2.2
instance (p : Pit) : Decidable (okQ p) := by unfold okQ; exact inferInstance
def numQ (p : Pit) : Int := num p.1 p.2.1 p.2.2
def fifQ (p : Pit) : Int := fif p.1 p.2.1

theorem cases7 {s : Int} (h0 : 0 ≤ s) (h6 : s ≤ 6) : s = 0 ∨ s = 1 ∨ s = 2 ∨ s = 3 ∨ s = 4 ∨ s = 5 ∨ s = 6 := by omega
theorem semi_bd {s : Int} (h0 : 0 ≤ s) (h6 : s ≤ 6) : 0 ≤ semi s ∧ semi s ≤ 11 := by
  rcases cases7 h0 h6 with rfl | rfl | rfl | rfl | rfl | rfl | rfl <;> decide
theorem fifS_bd {s : Int} (h0 : 0 ≤ s) (h6 : s ≤ 6) : -1 ≤ fifS s ∧ fifS s ≤ 5 := by
  rcases cases7 h0 h6 with rfl | rfl | rfl | rfl | rfl | rfl | rfl <;> decide
theorem fif_bd {s al o : Int} (h : okP s al o) : -15 ≤ fif s al ∧ fif s al ≤ 19 := by
  obtain ⟨⟨h0, h6, h1, h2, _, _⟩, _, _⟩ := h
  have := fifS_bd h0 h6
  unfold fif
  omega
theorem not_okP {s al o : Int} (h : ¬ okP s al o) :
    (inR s al o ∧ (num s al o < 0 ∨ 127 < num s al o)) ∨ (s < 0 ∨ (0 ≤ s ∧ 6 < s) ∨ (0 ≤ s ∧ s ≤ 6 ∧ al < -2) ∨ (0 ≤ s ∧ s ≤ 6 ∧ -2 ≤ al ∧ 2 < al) ∨ (0 ≤ s ∧ s ≤ 6 ∧ -2 ≤ al ∧ al ≤ 2 ∧ o < -1) ∨ (0 ≤ s ∧ s ≤ 6 ∧ -2 ≤ al ∧ al ≤ 2 ∧ -1 ≤ o ∧ 9 < o)) := by
  by_cases hr : inR s al o
  · left
    refine ⟨hr, ?_⟩
    rcases Int.lt_or_le (num s al o) 0 with h1 | h1
    · exact .inl h1
    · rcases Int.lt_or_le 127 (num s al o) with h2 | h2
      · exact .inr h2
      · exact absurd ⟨hr, h1, h2⟩ h
  · right
    unfold inR at hr; omega

/-- The pitches with number n of one alteration, of the steps below j. -/
def enhS (n a : Int) (j : Nat) : List Pit := ((List.range j).map (fun s : Nat => ((s : Int), a, (n - a) / 12 - 1))).filter fun p => semi p.1 == (n - a) % 12 && decide (okQ p)
/-- The pitches with number n, of the first k alterations from 2 down. -/
def enhT (n : Int) : Nat → List Pit
  | 0 => []
  | k + 1 => enhT n k ++ enhS n (2 - (k : Int)) 7
def enh (n : Int) : List Pit := enhT n 5
theorem enhS_zero (n a : Int) : enhS n a 0 = [] := rfl
theorem enhS_hit {n a : Int} {j : Nat} (h1 : semi (j : Int) = (n - a) % 12) (h2 : okP (j : Int) a ((n - a) / 12 - 1)) : enhS n a (j + 1) = enhS n a j ++ [((j : Int), a, (n - a) / 12 - 1)] := by
  unfold enhS
  rw [List.range_succ, List.map_append, List.filter_append, List.map_singleton, List.filter_cons, if_pos]
  · rfl
  · have h3 : okQ ((j : Int), a, (n - a) / 12 - 1) := h2
    simp [h1, h3]
theorem enhS_miss {n a : Int} {j : Nat} (h : semi (j : Int) ≠ (n - a) % 12 ∨ ¬ okP (j : Int) a ((n - a) / 12 - 1)) : enhS n a (j + 1) = enhS n a j := by
  unfold enhS
  rw [List.range_succ, List.map_append, List.filter_append, List.map_singleton, List.filter_cons, if_neg]
  · simp
  · intro hc
    rw [Bool.and_eq_true, beq_iff_eq, decide_eq_true_iff] at hc
    rcases h with h | h
    · exact h hc.1
    · exact h hc.2
theorem enhS_len (n a : Int) (j : Nat) : (enhS n a j).length ≤ j := by
  unfold enhS
  exact Nat.le_trans (List.length_filter_le _ _) (by simp)
theorem enhT_len (n : Int) (k : Nat) : (enhT n k).length ≤ 7 * k := by
  induction k with
  | zero => exact Nat.le_refl _
  | succ k ih => unfold enhT; have := enhS_len n (2 - (k : Int)) 7; rw [List.length_append]; omega
theorem enhS_all {n a : Int} {j : Nat} {p : Pit} (h : p ∈ enhS n a j) : okQ p ∧ numQ p = n := by
  unfold enhS at h
  rw [List.mem_filter, Bool.and_eq_true, beq_iff_eq, decide_eq_true_iff] at h
  obtain ⟨h0, h1, h2⟩ := h
  obtain ⟨s, _, rfl⟩ := List.mem_map.1 h0
  refine ⟨h2, ?_⟩
  dsimp only at h1
  show num (s : Int) a ((n - a) / 12 - 1) = n
  unfold num
  rw [h1]
  omega
theorem enhT_all {n : Int} {p : Pit} : ∀ (k : Nat), p ∈ enhT n k → okQ p ∧ numQ p = n := by
  intro k
  induction k with
  | zero => intro h; cases h
  | succ k ih =>
    intro h
    unfold enhT at h
    rcases List.mem_append.1 h with h | h
    · exact ih h
    · exact enhS_all h
theorem enh_all {n : Int} {p : Pit} (h : p ∈ enh n) : okQ p ∧ numQ p = n := enhT_all 5 h
theorem enh_ne_f : ∀ n : Fin 128, enh (n.val : Int) ≠ [] := by decide +kernel
theorem fin_int {n : Int} (h0 : 0 ≤ n) (h1 : n ≤ 127) : ∃ k : Fin 128, n = (k.val : Int) := ⟨⟨n.toNat, by omega⟩, by show n = ((n.toNat : Nat) : Int); omega⟩
theorem enh_ne {n : Int} (h0 : 0 ≤ n) (h1 : n ≤ 127) : enh n ≠ [] := by
  obtain ⟨k, rfl⟩ := fin_int h0 h1
  exact enh_ne_f k
theorem enh_small_f : ∀ n : Fin 128, (enh (n.val : Int)).length ≤ 3 := by decide +kernel
theorem enh_small {n : Int} (h0 : 0 ≤ n) (h1 : n ≤ 127) : (enh n).length ≤ 3 := by
  obtain ⟨k, rfl⟩ := fin_int h0 h1
  exact enh_small_f k

/-- All pitches in the order of octaves, steps, alterations: those that exist among the first k. -/
def allAt (k : Nat) : Pit := (((k / 5 % 7 : Nat) : Int), ((k % 5 : Nat) : Int) - 2, ((k / 35 : Nat) : Int) - 1)
def allT (k : Nat) : List Pit := ((List.range k).map allAt).filter fun p => decide (okQ p)
def enhR (n : Int) : List Pit := (allT 385).filter fun p => numQ p == n
theorem enh_eq_f : ∀ n : Fin 128, enh (n.val : Int) = enhR (n.val : Int) := by decide +kernel
theorem enh_eq {n : Int} (h0 : 0 ≤ n) (h1 : n ≤ 127) : enh n = enhR n := by
  obtain ⟨k, rfl⟩ := fin_int h0 h1
  exact enh_eq_f k

/-- By how much a pitch is outside a key, three times; how far two pitches are apart on the line of fifths. -/
def outQ (f : Int) (p : Pit) : Int := max 0 (max (f - 1 - fifQ p) (fifQ p - f - 5))
def cQ (f : Int) (p : Pit) : Int := 3 * outQ f p
def dQ (p q : Pit) : Int := max (fifQ p - fifQ q) (-(fifQ p - fifQ q))
theorem out_bd {f : Int} {p : Pit} (hf : -7 ≤ f) (hf' : f ≤ 7) (h : okQ p) : 0 ≤ outQ f p ∧ outQ f p ≤ 21 := by
  have := fif_bd h
  unfold outQ fifQ
  omega
theorem d_bd {p q : Pit} (h : okQ p) (h' : okQ q) : 0 ≤ dQ p q ∧ dQ p q ≤ 34 := by
  have := fif_bd h
  have := fif_bd h'
  unfold dQ fifQ
  omega
theorem d_symm (p q : Pit) : dQ p q = dQ q p := by unfold dQ; omega
end Go.Proofs.Ytdmhjcnijebfgaa
