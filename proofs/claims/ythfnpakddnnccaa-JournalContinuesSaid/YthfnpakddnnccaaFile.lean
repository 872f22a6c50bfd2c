/- The file of package journal: what lies in memory, and contracts of its small functions. -/
import Derived.Test.YthfnpakddnnccaaMake
import Derived.Lib.AppendStr
import Derived.Laws.Rows
namespace Go.Proofs.Ythfnpakddnnccaa
open Go.RowKit
set_option linter.unusedVariables false

/-- A file's state. -/
structure FS where
  bytes : ByteArray
  syn : Nat
  lim : Int
  down : Bool

def fileC (v : Value) (s : FS) : Array Value := #[v, .int .i64 (s.syn : Int), .int .i64 s.lim, .bool s.down]
structure FileAt (base : Nat) (w : World) (b : Nat) (v : Value) (s : FS) : Prop where
  row : w.ownsRow base 5 1 v s.bytes.size (Lib.strCells s.bytes)
  blk : w.heap[b]? = some (.cells (fileC v s) 81 (0, 0))
  ge : base ≤ b

/-- Nothing is turned but block b and a row. -/
structure Touch (b : Nat) (row : Option Nat) (w w' : World) : Prop where
  os : w'.os = w.os
  tape : w'.tape = w.tape
  output : w'.output = w.output
  size : w.heap.size ≤ w'.heap.size
  block : ∀ k, k < w.heap.size → k ≠ b → some k ≠ row → w'.heap[k]? = w.heap[k]?

theorem Touch.refl (b : Nat) (row : Option Nat) (w : World) : Touch b row w w := ⟨rfl, rfl, rfl, Nat.le_refl _, fun _ _ _ _ => rfl⟩
theorem Touch.trans {b : Nat} {row : Option Nat} {w w' w'' : World} (h : Touch b row w w') (k : Touch b row w' w'') : Touch b row w w'' :=
  ⟨k.os.trans h.os, k.tape.trans h.tape, k.output.trans h.output, Nat.le_trans h.size k.size, fun i hi h1 h2 => (k.block i (Nat.lt_of_lt_of_le hi h.size) h1 h2).trans (h.block i hi h1 h2)⟩
theorem Touch.setCell {b : Nat} {row : Option Nat} {w w' : World} (h : Touch b row w w') (i : Nat) (u : Value) : Touch b row w (w'.setCell ⟨b, i, none⟩ u) :=
  ⟨h.os, h.tape, h.output, by show w.heap.size ≤ (w'.heap.modify b _).size; rw [Array.size_modify]; exact h.size, fun k hk h1 h2 => by
    rw [← h.block k hk h1 h2]
    show (w'.heap.modify b _)[k]? = _
    rw [Array.getElem?_modify, if_neg (by omega)]⟩
theorem Touch.more {b : Nat} {row : Option Nat} {w w' : World} (h : Touch b none w w') : Touch b row w w' := ⟨h.os, h.tape, h.output, h.size, fun k hk h1 _ => h.block k hk h1 (by simp)⟩
theorem Touch.ofGrown {b : Nat} {row : Option Nat} {w w' : World} (h : w.grownBy w' row) : Touch b row w w' := ⟨h.os, h.tape, h.output, h.size, fun k hk _ h2 => h.block k hk h2⟩
theorem Touch.ofBelow {b : Nat} {row : Option Nat} {w w' : World} (h : Below w.heap.size w w') : Touch b row w w' := ⟨h.os, h.tape, h.output, h.size, fun k hk _ _ => h.block k hk⟩

theorem heap_setCell {w : World} {b : Nat} {cur : Array Value} {t : TypeId} {fr : Nat × Nat} (h : w.heap[b]? = some (.cells cur t fr)) (i : Nat) (u : Value) :
    (w.setCell ⟨b, i, none⟩ u).heap[b]? = some (.cells (cur.setIfInBounds i u) t fr) := by
  show (w.heap.modify b _)[b]? = _
  rw [Array.getElem?_modify, if_pos rfl, h]
  rfl
theorem FileAt.cells {base : Nat} {w : World} {b : Nat} {v : Value} {s : FS} (h : FileAt base w b v s) :
    w.cell? ⟨b, 0, none⟩ = some v ∧ w.cell? ⟨b, 1, none⟩ = some (.int .i64 (s.syn : Int)) ∧ w.cell? ⟨b, 2, none⟩ = some (.int .i64 s.lim) ∧ w.cell? ⟨b, 3, none⟩ = some (.bool s.down) ∧
      (∀ o, w.frozen? ⟨b, o, none⟩ = false) ∧ b < w.heap.size := by
  have hc := fun j => cell_of_row w b j (fileC v s) 81 (0, 0) h.blk
  refine ⟨hc 0, hc 1, hc 2, hc 3, fun o => ?_, (Array.getElem?_eq_some_iff.1 h.blk).1⟩
  simp [World.frozen?, h.blk]
/-- A slice's form. -/
theorem FileAt.form {base : Nat} {w : World} {b : Nat} {v : Value} {s : FS} (h : FileAt base w b v s) :
    ∃ A c, v = .slice A s.bytes.size c ∧ s.bytes.size ≤ c ∧ c ≤ maxLen ∧ (∀ k, v.ownBlock = some k → base ≤ k ∧ k < w.heap.size ∧ k ≠ b) := by
  have hl := h.row.lt
  have hne : ∀ k, v.ownBlock = some k → k ≠ b := by
    intro k hk e
    subst e
    rcases h.row.2 with ⟨rfl, _⟩ | ⟨g, cap, cur, rfl, _, hg, _⟩
    · simp [Value.ownBlock] at hk
    · have : g = k := by simpa [Value.ownBlock] using hk
      subst this
      rw [h.blk] at hg
      injection hg with hg
      injection hg with _ ht _
      exact absurd ht (by decide)
  have hl' := fun k hk => (⟨(hl k hk).1, (hl k hk).2, hne k hk⟩ : base ≤ k ∧ k < w.heap.size ∧ k ≠ b)
  rcases h.row.2 with ⟨rfl, hz⟩ | ⟨g, cap, cur, rfl, hg, hh, hc, hm, _⟩
  · exact ⟨none, 0, by rw [hz], by omega, Nat.zero_le _, hl'⟩
  · exact ⟨some ⟨g, 0, none⟩, cap, rfl, hc, hm, hl'⟩
theorem row_touch {base : Nat} {e : TypeId} {size : Nat} {w w' : World} {v : Value} {n : Nat} {xs : List Value} (h : w.ownsRow base e size v n xs) (hk : ∀ k, v.ownBlock = some k → k < w.heap.size → w'.heap[k]? = w.heap[k]?) : w'.ownsRow base e size v n xs := by
  refine ⟨h.1, ?_⟩
  rcases h.2 with hn | ⟨g, cap, cur, rfl, hb, hgg, rest⟩
  · exact .inl hn
  · refine .inr ⟨g, cap, cur, rfl, hb, ?_, rest⟩
    rw [hk g rfl (Array.getElem?_eq_some_iff.1 hgg).1]
    exact hgg
theorem setCell_far (w : World) (b i k : Nat) (u : Value) (h : k ≠ b) : (w.setCell ⟨b, i, none⟩ u).heap[k]? = w.heap[k]? := by
  show (w.heap.modify b _)[k]? = _
  rw [Array.getElem?_modify, if_neg (by omega)]
theorem FileAt.set {base : Nat} {w : World} {b : Nat} {v : Value} {s s' : FS} (h : FileAt base w b v s) (i : Nat) (u : Value) (hb : s'.bytes = s.bytes) (hc : (fileC v s).setIfInBounds i u = fileC v s') :
    FileAt base (w.setCell ⟨b, i, none⟩ u) b v s' := by
  obtain ⟨A, c, _, _, _, hk⟩ := h.form
  refine ⟨?_, ?_, h.ge⟩
  · rw [hb]
    exact row_touch h.row fun k e hlt => setCell_far w b i k u (hk k e).2.2
  · rw [heap_setCell h.blk i u, hc]
theorem FileAt.below {base : Nat} {w w' : World} {b : Nat} {v : Value} {s : FS} (h : FileAt base w b v s) (hb : Below w.heap.size w w') : FileAt base w' b v s :=
  ⟨row_touch h.row fun k e hlt => hb.block k hlt, (hb.block b (Array.getElem?_eq_some_iff.1 h.blk).1).trans h.blk, h.ge⟩

theorem ready_any (base b : Nat) (v : Value) (s : FS) (w : World) (h : FileAt base w b v s) :
    Calls Try.prog 48 #[.pointer (some ⟨b, 0, none⟩)] w fun e w' => e = .returned (.int .i64 (if s.down then 36 else 0)) ∧ w' = w := by
  obtain ⟨c0, c1, c2, c3, fr, hlt⟩ := h.cells
  cases hd : s.down
  · rw [hd] at c3
    go_enter Try.func48, Try.ntmps48
    go_wp2
    go_returns
    exact ⟨rfl, rfl⟩
  · rw [hd] at c3
    go_enter Try.func48, Try.ntmps48
    go_wp2
    go_returns
    exact ⟨rfl, rfl⟩
theorem synced_any (base b : Nat) (v : Value) (s : FS) (w : World) (h : FileAt base w b v s) :
    Calls Try.prog 42 #[.pointer (some ⟨b, 0, none⟩)] w fun e w' => e = .returned (.int .i64 (s.syn : Int)) ∧ w' = w := by
  obtain ⟨c0, c1, c2, c3, fr, hlt⟩ := h.cells
  go_enter Try.func42, Try.ntmps42
  go_wp2
  go_returns
  exact ⟨rfl, rfl⟩
theorem down_any (base b : Nat) (v : Value) (s : FS) (w : World) (h : FileAt base w b v s) :
    Calls Try.prog 26 #[.pointer (some ⟨b, 0, none⟩)] w fun e w' => e = .returned (.bool s.down) ∧ w' = w := by
  obtain ⟨c0, c1, c2, c3, fr, hlt⟩ := h.cells
  generalize s.down = d at *
  go_enter Try.func26, Try.ntmps26
  go_wp2
  go_returns
  exact ⟨rfl, rfl⟩
theorem fail_any (base b : Nat) (v : Value) (s : FS) (w : World) (h : FileAt base w b v s) :
    Calls Try.prog 30 #[.pointer (some ⟨b, 0, none⟩)] w fun e w' => (∃ r, e = .returned r) ∧ FileAt base w' b v { s with down := true } ∧ Touch b none w w' := by
  obtain ⟨c0, c1, c2, c3, fr, hlt⟩ := h.cells
  have f3 := fr 3
  go_enter Try.func30, Try.ntmps30
  go_wp2
  go_end0
  exact ⟨⟨_, rfl⟩, h.set 3 _ rfl rfl, (Touch.refl _ _ _).setCell 3 _⟩
theorem setlimit_any (base b : Nat) (v : Value) (s : FS) (n : Int) (w : World) (h : FileAt base w b v s) :
    Calls Try.prog 25 #[.pointer (some ⟨b, 0, none⟩), .int .i64 n] w fun e w' => (∃ r, e = .returned r) ∧ FileAt base w' b v { s with lim := max n (-1) } ∧ Touch b none w w' := by
  obtain ⟨c0, c1, c2, c3, fr, hlt⟩ := h.cells
  have f2 := fr 2
  by_cases hn : n < -1
  · rw [show max n (-1) = -1 from by omega]
    go_enter Try.func25, Try.ntmps25
    go_wp2
    go_end0
    exact ⟨⟨_, rfl⟩, h.set 2 _ rfl rfl, (Touch.refl _ _ _).setCell 2 _⟩
  · rw [show max n (-1) = n from by omega]
    go_enter Try.func25, Try.ntmps25
    go_wp2
    go_end0
    exact ⟨⟨_, rfl⟩, h.set 2 _ rfl rfl, (Touch.refl _ _ _).setCell 2 _⟩

/-- An operation is counted, or the power fails at it. -/
def fOp (s : FS) : FS × Int := if s.lim = 0 then ({ s with down := true }, 36) else ({ s with lim := max (s.lim - 1) (-1) }, 0)
theorem operate_any (base b : Nat) (v : Value) (s : FS) (w : World) (h : FileAt base w b v s) (hl : -1 ≤ s.lim) (hu : s.lim < 9223372036854775808) :
    Calls Try.prog 59 #[.pointer (some ⟨b, 0, none⟩)] w fun e w' => e = .returned (.int .i64 (fOp s).2) ∧ FileAt base w' b v (fOp s).1 ∧ Touch b none w w' := by
  obtain ⟨c0, c1, c2, c3, fr, hlt⟩ := h.cells
  have f2 := fr 2
  have f3 := fr 3
  unfold fOp
  by_cases h0 : s.lim = 0
  · rw [if_pos h0]
    rw [h0] at c2
    go_enter Try.func59, Try.ntmps59
    go_wp2
    go_returns
    exact ⟨rfl, h.set 3 _ rfl rfl, (Touch.refl _ _ _).setCell 3 _⟩
  · rw [if_neg h0]
    by_cases h1 : s.lim = -1
    · rw [show max (s.lim - 1) (-1) = -1 from by omega]
      rw [h1] at c2
      go_enter Try.func59, Try.ntmps59
      go_wp2
      go_returns
      exact ⟨rfl, h.set 2 _ rfl rfl, (Touch.refl _ _ _).setCell 2 _⟩
    · rw [show max (s.lim - 1) (-1) = s.lim - 1 from by omega]
      have h2 : ¬ s.lim - 1 < -1 := by omega
      go_enter Try.func59, Try.ntmps59
      go_wp2
      go_returns
      exact ⟨rfl, h.set 2 _ rfl rfl, (Touch.refl _ _ _).setCell 2 _⟩
end Go.Proofs.Ythfnpakddnnccaa
