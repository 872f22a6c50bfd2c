/- The walk of hemiola/hemiolalaw08.ClefBest: it returns true, and writes nothing that was there. -/
import Derived.Test.YtdleefphgjnhjaaCbest
import Derived.Test.YtdleefphgjnhjaaKnown
import Derived.Test.YtdleefphgjnhjaaOpen
import Derived.OpenShut
namespace Go.Proofs.Ytdleefphgjnhjaa
open Go.RowKit
set_option linter.unusedVariables false
theorem rd_takeI {w : World} {B : Nat} {A : Option Addr} {l : List Int} (h : Rd w B A (ints l)) (m : Nat) : Rd w B A (ints (l.take m)) := by
  rcases h with h | ⟨b, off, hA, hB, hc⟩
  · have : l = [] := by cases l with | nil => rfl | cons _ _ => cases h
    subst this
    exact .inl (by rw [List.take_nil]; rfl)
  · refine .inr ⟨b, off, hA, hB, fun j u hu => hc j u ?_⟩
    have hj : j < m := by
      have := (List.getElem?_eq_some_iff.1 hu).1
      rw [List.length_map, List.length_take] at this; omega
    rw [List.getElem?_map, List.getElem?_take_of_lt hj] at hu
    rw [List.getElem?_map]; exact hu
theorem rd_takeP {w : World} {B : Nat} {A : Option Addr} {L : List Pit} (h : Rd w B A (pitsC L)) (m : Nat) : Rd w B A (pitsC (L.take m)) := by
  rcases h with h | ⟨b, off, hA, hB, hc⟩
  · have : L = [] := by
      have := congrArg List.length h
      rw [pitsC_len] at this
      have h0 : L.length * 3 = 0 := this
      exact List.eq_nil_of_length_eq_zero (by omega)
    subst this
    exact .inl (by rw [List.take_nil]; rfl)
  · refine .inr ⟨b, off, hA, hB, fun j u hu => hc j u ?_⟩
    have hsplit : pitsC L = pitsC (L.take m) ++ pitsC (L.drop m) := by
      have := congrArg pitsC (List.take_append_drop m L).symm
      rw [this]; unfold pitsC; rw [List.flatMap_append]
    rw [hsplit, List.getElem?_append_left (List.getElem?_eq_some_iff.1 hu).1]
    exact hu
set_option maxRecDepth 100000 in
set_option maxHeartbeats 4000000 in
theorem walkClefBest {w : World} (A : Option Addr) (len cap : Nat) (C0 : List Int) (h0 : len ≤ cap ∧ cap ≤ maxLen ∧ C0.length = len ∧ Rd w w.heap.size A (ints C0) ∧ ∀ n ∈ C0, (Lit.int .i64 n).wf = true)
    (B : Option Addr) (len2 cap2 : Nat) (L0 : List Pit) (h1 : len2 ≤ cap2 ∧ cap2 ≤ maxLen ∧ L0.length = len2 ∧ Rd w w.heap.size B (pitsC L0) ∧ ∀ p ∈ L0, (-9223372036854775808 ≤ p.1 ∧ p.1 < 9223372036854775808) ∧ (-9223372036854775808 ≤ p.2.1 ∧ p.2.1 < 9223372036854775808) ∧ (-9223372036854775808 ≤ p.2.2 ∧ p.2.2 < 9223372036854775808)) (_w : World) :
    Calls Try.prog 11 #[.slice A len cap, .slice B len2 cap2] w fun e w' => e = .returned (.bool true) ∧ Below w.heap.size w w' := by
  obtain ⟨hlc, hcm, rfl, hrd, h5⟩ := h0
  obtain ⟨hlc2, hcm2, rfl, hrd2, h6⟩ := h1
  clear h5 h6
  obtain ⟨n, hn⟩ : ∃ n, n = min C0.length 9 := ⟨_, rfl⟩
  obtain ⟨m, hm⟩ : ∃ m, m = min L0.length 20 := ⟨_, rfl⟩
  have hC : (C0.take n).length = n := by rw [List.length_take]; omega
  have hL : (L0.take m).length = m := by rw [List.length_take]; omega
  have r1 := rd_takeI hrd n
  have r2 := rd_takeP hrd2 m
  generalize C0.take n = cs at *
  generalize L0.take m = L at *
  have hncap : (n : Int) ≤ (cap : Int) := by omega
  have hmcap : (m : Int) ≤ (cap2 : Int) := by omega
  have n0 : (0 : Int) ≤ (n : Int) := by omega
  have m0 : (0 : Int) ≤ (m : Int) := by omega
  have hn9 : n ≤ 9 := by omega
  have hm20 : m ≤ 20 := by omega
  have hmn : (if (9 : Int) < (C0.length : Int) then 9 else (C0.length : Int)) = (n : Int) := by split <;> omega
  have hmm : (if (20 : Int) < (L0.length : Int) then 20 else (L0.length : Int)) = (m : Int) := by split <;> omega
  have CB := Lib.hid (fun w1 (h : Below w.heap.size w w1) => cbest_any A B cap cap2 cs L w1 (rd_below r1 h) (rd_below r2 h) (by omega) (by omega))
  have RB := Lib.hid (fun w1 (h : Below w.heap.size w w1) => rbest_any A B cap cap2 cs L w1 (rd_below r1 h) (rd_below r2 h) (by omega) (by omega))
  rw [hC, hL] at CB RB
  clear hC hL r1 r2 hrd hrd2 hn hm hlc hcm hlc2 hcm2
  go_enter Try.func11, Try.ntmps11
  go_wp2_with fail
  refine wp_region_later (by kernel_rfl) (by kernel_rfl) ?_
  repeat (go_big_quiet_step (fail))
  refine wpQuiet_nil ?_
  intro w1 hb1
  clear hmn hmm
  go_wp2_with fail
  refine (CB.out _ hb1).mono ?_
  rintro e w2 ⟨x, y, rfl, hE, hb2⟩
  have hb12 := next0 hb1 hb2
  go_wp2_with fail
  refine (RB.out _ hb12).mono ?_
  rintro e w3 ⟨x', y', rfl, hE', hb3⟩
  obtain ⟨rfl, rfl⟩ := hE.uniq hE'
  have hb13 := next0 hb12 hb3
  clear CB RB hE hE'
  go_wp2_with (go_at_call 12; refine (known_any _).mono ?_; rintro e w4 ⟨rfl, hb4⟩)
  go_returns
  exact ⟨by first | rfl | (simp; done), next0 hb13 hb4⟩
end Go.Proofs.Ytdleefphgjnhjaa
