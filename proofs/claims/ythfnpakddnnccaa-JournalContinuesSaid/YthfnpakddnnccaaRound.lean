/- A region that draws its order, in the round of a loop over an iterator: by the plain laws. -/
import Derived.Test.YthfnpakddnnccaaScan
import Derived.OrdersHeld
import Derived.OrdersIn
namespace Go.Proofs.Ythfnpakddnnccaa
open Go.RowKit
set_option linter.unusedVariables false

theorem operIn_of_oper {P : Program} {l n : Nat} {o : Oper} (hnd : ∀ c, o.op ≠ .defer c) {a : Act} {w : World} {K : Act → World → Prop} {Q : Exit → Act → World → Prop} (hno : ¬ LetsOut Q) (h : o.wp P a w K Q) :
    o.wpIn (Fence.wide.inRound l) n P a w K Q := by
  unfold Oper.wp at h
  unfold Oper.wpIn
  refine ⟨fun _ _ => trivial, ?_⟩
  rw [show (Fence.wide.inRound l).round = some l from rfl, Oper.semAt_eq _ _ _ hnd]
  generalize (execOp a.eval o).run P w = r at *
  cases r with
  | ok x w' =>
    cases x <;> simp only [Oper.upon, Oper.uponIn] at h ⊢
    case value => exact h
    case skip => exact h
    case defer => exact h
    case enter f args => exact ⟨(fun hd => (by cases hd)), CallsIn.inRound l (callsIn_wide.2 h)⟩
    case row row args =>
      refine ⟨(fun hd => (by cases hd)), fun c cs _ => ?_⟩
      obtain ⟨v, w1, hr, hs⟩ := h c cs
      exact ⟨v, w1, hr, stepsIn_wide.2 hs⟩
  | halt x w' =>
    cases x <;> simp only [Oper.upon, Oper.uponIn] at h ⊢
    case panic => exact h
theorem anyIn_of_any {P : Program} {l n : Nat} {md : Region.Mode} {ops : Array Oper} {Q : Exit → Act → World → Prop} (hnd : ∀ (i : Nat) (o : Oper), ops[i]? = some o → ∀ c, o.op ≠ .defer c) (hno : ¬ LetsOut Q) :
    ∀ (fuel : Nat) (listed : Array Bool) (a : Act) (w : World), wpAny P md ops Q fuel listed a w → wpAnyIn (Fence.wide.inRound l) n P md ops Q fuel listed a w
  | 0, _, _, _, h => h
  | fuel + 1, listed, a, w, h => by
    refine ⟨h.1, fun i hi => ?_⟩
    have h1 := h.2 i hi
    unfold wpOp at h1
    unfold wpOpIn
    cases ho : ops[i]? with
    | none => simp only [ho] at h1 ⊢; exact anyIn_of_any hnd hno fuel _ _ _ h1
    | some o =>
      simp only [ho] at h1 ⊢
      split
      · rename_i hw
        simp only [hw, if_true] at h1
        rcases h1 with h1 | h1
        · exact operIn_of_oper (hnd i o ho) hno (Oper.wp_mono (fun a w hh => anyIn_of_any hnd hno fuel _ a w hh) h1)
        · exact absurd h1.2 hno
      · rename_i hw
        simp only [hw] at h1
        exact ⟨fun _ _ => trivial, anyIn_of_any hnd hno fuel _ _ _ h1⟩
end Go.Proofs.Ythfnpakddnnccaa
