/- The errors of Chord: one contract; what the law reckons. -/
import Derived.Test.YtdmhjcnijebfgaaSchd
namespace Go.Proofs.Ytdmhjcnijebfgaa
open Go.RowKit
set_option linter.unusedVariables false

def badT (l : List Int) (k : Nat) : Prop := ∃ i, i < k ∧ (l.getD i 0 < 0 ∨ 127 < l.getD i 0)
def upT (l : List Int) (k : Nat) : Prop := ∀ i, i + 1 < k → l.getD i 0 < l.getD (i + 1) 0
/-- What the law has found among the first k numbers. -/
structure EI (l : List Int) (k : Nat) (wv : Int) (rv : Bool) : Prop where
  two : wv = 0 ∨ wv = 2
  bad : wv = 2 ↔ badT l k
  up : rv = true ↔ upT l k
theorem EI.start (l : List Int) : EI l 0 0 true :=
  ⟨.inl rfl, ⟨fun h => absurd h (by decide), fun ⟨i, hi, _⟩ => absurd hi (Nat.not_lt_zero _)⟩, ⟨fun _ i hi => by omega, fun _ => rfl⟩⟩
theorem EI.next {l : List Int} {k : Nat} {wv : Int} {rv : Bool} (h : EI l k wv rv) :
    EI l (k + 1) (if l.getD k 0 < 0 ∨ 127 < l.getD k 0 then 2 else wv) (if 0 < k ∧ l.getD k 0 ≤ l.getD (k - 1) 0 then false else rv) := by
  refine ⟨?_, ?_, ?_⟩
  · split
    · exact .inr rfl
    · exact h.two
  · split
    · rename_i hx
      exact ⟨fun _ => ⟨k, Nat.lt_succ_self _, hx⟩, fun _ => rfl⟩
    · rename_i hx
      rw [h.bad]
      constructor
      · rintro ⟨i, hi, hb⟩
        exact ⟨i, by omega, hb⟩
      · rintro ⟨i, hi, hb⟩
        refine ⟨i, ?_, hb⟩
        rcases Nat.lt_or_ge i k with h1 | h1
        · exact h1
        · obtain rfl : i = k := by omega
          exact absurd hb hx
  · split
    · rename_i hx
      refine ⟨fun h => absurd h (by decide), fun hu => ?_⟩
      have := hu (k - 1) (by omega)
      rw [show k - 1 + 1 = k from by omega] at this
      omega
    · rename_i hx
      rw [h.up]
      constructor
      · intro hu i hi
        rcases Nat.lt_or_ge (i + 1) k with h1 | h1
        · exact hu i h1
        · obtain rfl : i + 1 = k := by omega
          rw [Nat.add_sub_cancel] at hx
          omega
      · intro hu i hi
        exact hu i (by omega)
/-- The error of Chord. -/
inductive ChE (l : List Int) (f : Int) : Int → Prop where
  | range : (f < -7 ∨ 7 < f) → ChE l f 2
  | long : -7 ≤ f → f ≤ 7 → 10 < l.length → ChE l f 9
  | bad : -7 ≤ f → f ≤ 7 → l.length ≤ 10 → badT l l.length → ChE l f 2
  | order : -7 ≤ f → f ≤ 7 → l.length ≤ 10 → ¬ badT l l.length → ¬ upT l l.length → ChE l f 25
  | ok : -7 ≤ f → f ≤ 7 → l.length ≤ 10 → ¬ badT l l.length → upT l l.length → ChE l f 0
def CeePost (l : List Int) (f : Int) (w : World) (e : Ending) (w' : World) : Prop :=
  Below w.heap.size w w' ∧ ∃ (A : Option Addr) (c n : Nat) (x : Int), e = .returned (.tuple #[.slice A n c, .int .i64 x]) ∧ ChE l f x ∧ (x = 0 → n = l.length) ∧ (x ≠ 0 → n = 0)
theorem chord_any (A : Option Addr) (c : Nat) (l : List Int) (f : Int) (w : World) (hrd : Rd w w.heap.size A (ints l)) (hn : l.length ≤ 14) :
    Calls Try.prog 25 #[.slice A l.length c, .int .i64 f] w (CeePost l f w) := by
  by_cases hf : f < -7 ∨ 7 < f
  · refine (chord_range A l.length c f w (by unfold maxLen; omega) hf).mono ?_
    rintro e w' ⟨rfl, hb⟩
    exact ⟨hb, none, 0, 0, 2, rfl, .range hf, fun h => absurd h (by decide), fun _ => rfl⟩
  have f0 : -7 ≤ f := by omega
  have f1 : f ≤ 7 := by omega
  by_cases hl : 10 < l.length
  · refine (chord_long A l.length c f w (by unfold maxLen; omega) f0 f1 hl).mono ?_
    rintro e w' ⟨rfl, hb⟩
    exact ⟨hb, none, 0, 0, 9, rfl, .long f0 f1 hl, fun h => absurd h (by decide), fun _ => rfl⟩
  have hl' : l.length ≤ 10 := by omega
  by_cases hbad : badT l l.length
  · have hb' : ∃ n ∈ l, n < 0 ∨ 127 < n := by
      obtain ⟨i, hi, h⟩ := hbad
      exact ⟨_, getD_memL l 0 hi, h⟩
    refine (chord_bad A c l f w hrd hl' f0 f1 hb').mono ?_
    rintro e w' ⟨rfl, hb⟩
    exact ⟨hb, none, 0, 0, 2, rfl, .bad f0 f1 hl' hbad, fun h => absurd h (by decide), fun _ => rfl⟩
  have hin : ∀ n ∈ l, 0 ≤ n ∧ n ≤ 127 := fun n hn => by
    obtain ⟨i, hi, rfl⟩ := List.getElem_of_mem hn
    rw [get_getD l 0 hi]
    have : ¬ (l.getD i 0 < 0 ∨ 127 < l.getD i 0) := fun h => hbad ⟨i, hi, h⟩
    omega
  refine (chord_in A c l f w hrd hl' f0 f1 hin).mono ?_
  rintro e w' ⟨hb, h1, h2⟩
  by_cases hr : riseI l
  · obtain ⟨A', c', rfl, _⟩ := h1 hr
    refine ⟨hb, A', c', _, 0, rfl, .ok f0 f1 hl' hbad hr, fun _ => ?_, fun h => absurd rfl h⟩
    obtain ⟨y, hy⟩ := prod_ne (l.map enh) (fun L hL => by
      obtain ⟨n, hn, rfl⟩ := List.mem_map.1 hL
      exact enh_ne (hin n hn).1 (hin n hn).2)
    have h := (lIdx_fm (wtQ f) (prod (l.map enh)) (List.length_pos_iff.2 (fun e => by rw [e] at hy; cases hy))).mem
    have h' : wbst f (l.map enh) ∈ prod (l.map enh) := h
    rw [prod_each h', List.length_map]
  · obtain rfl := h2 hr
    exact ⟨hb, none, 0, 0, 25, rfl, .order f0 f1 hl' hbad hr, fun h => absurd h (by decide), fun _ => rfl⟩
end Go.Proofs.Ytdmhjcnijebfgaa
