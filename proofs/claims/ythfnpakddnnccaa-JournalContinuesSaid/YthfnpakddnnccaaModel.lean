/- The law's model of a file: step: contract. -/
import Derived.Test.YthfnpakddnnccaaFile4
namespace Go.Proofs.Ythfnpakddnnccaa
open Go.RowKit
set_option linter.unusedVariables false

def modelC (s : FS) : Array Value := #[.string s.bytes, .int .i64 (s.syn : Int), .int .i64 s.lim, .bool s.down]
def ModelAt (w : World) (m : Nat) (s : FS) : Prop := w.heap[m]? = some (.cells (modelC s) 62 (0, 0))
theorem ModelAt.cells {w : World} {b : Nat} {s : FS} (h : ModelAt w b s) :
    w.cell? ⟨b, 0, none⟩ = some (.string s.bytes) ∧ w.cell? ⟨b, 1, none⟩ = some (.int .i64 (s.syn : Int)) ∧ w.cell? ⟨b, 2, none⟩ = some (.int .i64 s.lim) ∧ w.cell? ⟨b, 3, none⟩ = some (.bool s.down) ∧
      (∀ o, w.frozen? ⟨b, o, none⟩ = false) ∧ b < w.heap.size := by
  have hc := fun j => cell_of_row w b j (modelC s) 62 (0, 0) h
  refine ⟨hc 0, hc 1, hc 2, hc 3, fun o => ?_, (Array.getElem?_eq_some_iff.1 h).1⟩
  have h' : w.heap[b]? = some (.cells (modelC s) 62 (0, 0)) := h
  simp [World.frozen?, h']
theorem ModelAt.set {w : World} {b : Nat} {s s' : FS} (h : ModelAt w b s) (i : Nat) (u : Value) (hc : (modelC s).setIfInBounds i u = modelC s') : ModelAt (w.setCell ⟨b, i, none⟩ u) b s' := by
  unfold ModelAt
  rw [heap_setCell h i u, hc]
theorem ModelAt.below {w w' : World} {b : Nat} {s : FS} (h : ModelAt w b s) (hb : Below w.heap.size w w') : ModelAt w' b s := (hb.block b (Array.getElem?_eq_some_iff.1 h).1).trans h
/-- The model's block and a file's are two. -/
theorem model_ne {base : Nat} {w : World} {b m : Nat} {v : Value} {s t : FS} (h : FileAt base w b v s) (k : ModelAt w m t) : m ≠ b ∧ some m ≠ v.ownBlock := by
  constructor
  · rintro rfl
    have h1 := h.blk
    unfold ModelAt at k
    rw [k] at h1
    injection h1 with h1
    injection h1 with _ ht _
    exact absurd ht (by decide)
  · intro e
    rcases h.row.2 with ⟨rfl, _⟩ | ⟨g, cap, cur, rfl, _, hg, _⟩
    · simp [Value.ownBlock] at e
    · have : m = g := by simpa [Value.ownBlock] using e
      subst this
      unfold ModelAt at k
      rw [k] at hg
      injection hg with hg
      injection hg with _ ht _
      exact absurd ht (by decide)
theorem ModelAt.touch {base : Nat} {w w' : World} {b m : Nat} {v : Value} {s t : FS} (k : ModelAt w m t) (h : FileAt base w b v s) (ht : Touch b v.ownBlock w w') : ModelAt w' m t :=
  (ht.block m (Array.getElem?_eq_some_iff.1 k).1 (model_ne h k).1 (model_ne h k).2).trans k
theorem FileAt.touchM {base : Nat} {w w' : World} {b m : Nat} {v : Value} {s t : FS} (h : FileAt base w b v s) (k : ModelAt w m t) (ht : Touch m none w w') : FileAt base w' b v s :=
  ⟨row_touch h.row fun j hj hlt => ht.block j hlt (fun e => (model_ne h k).2 (by rw [← e, hj])) (by simp), (ht.block b (Array.getElem?_eq_some_iff.1 h.blk).1 (fun e => (model_ne h k).1 e.symm) (by simp)).trans h.blk, h.ge⟩

theorem step_any (b : Nat) (s : FS) (w : World) (h : ModelAt w b s) (hl : -1 ≤ s.lim) (hu : s.lim < 9223372036854775808) :
    Calls Try.prog 61 #[.pointer (some ⟨b, 0, none⟩)] w fun e w' => e = .returned (.bool (decide (s.lim = 0))) ∧ ModelAt w' b (fOp s).1 ∧ Touch b none w w' := by
  obtain ⟨c0, c1, c2, c3, fr, hlt⟩ := h.cells
  have f2 := fr 2
  have f3 := fr 3
  by_cases h0 : s.lim = 0
  · rw [fOp_0 h0, decide_eq_true h0]
    rw [h0] at c2
    clear h0
    go_enter Try.func61, Try.ntmps61
    go_wp2
    go_returns
    exact ⟨rfl, h.set 3 _ rfl, (Touch.refl _ _ _).setCell 3 _⟩
  · rw [fOp_1 h0, decide_eq_false h0]
    by_cases h1 : s.lim = -1
    · have e : ({ s with lim := max (s.lim - 1) (-1) } : FS) = s := by rw [h1, show max ((-1 : Int) - 1) (-1) = -1 from by omega, ← h1]
      rw [e]
      rw [h1] at c2
      clear h0 h1 e
      go_enter Try.func61, Try.ntmps61
      go_wp2
      go_returns
      exact ⟨rfl, h, Touch.refl _ _ _⟩
    · rw [show max (s.lim - 1) (-1) = s.lim - 1 from by omega]
      have hp : 0 < s.lim := by omega
      go_enter Try.func61, Try.ntmps61
      go_wp2
      go_returns
      exact ⟨rfl, h.set 2 _ rfl, (Touch.refl _ _ _).setCell 2 _⟩
end Go.Proofs.Ythfnpakddnnccaa
