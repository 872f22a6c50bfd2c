/- The journal: what lies in memory; ready, the deferred closures, Len, Get: contracts. -/
import Derived.Test.YthfnpakddnnccaaTwo
import Derived.Test.YthfnpakddnnccaaFile4
import Derived.Test.YthfnpakddnnccaaEnc
import Derived.Defers
namespace Go.Proofs.Ythfnpakddnnccaa
open Go.RowKit
set_option linter.unusedVariables false

/-- A journal's state. -/
structure JS where
  recs : List ByteArray
  ends : List Nat
  failed : Bool
def recsV (l : List ByteArray) : List Value := l.map Value.string
def endsV (l : List Nat) : List Value := l.map fun n : Nat => Value.int .i64 (n : Int)
structure JourAt (B : Nat) (w : World) (J f : Nat) (v1 v2 : Value) (s : JS) : Prop where
  jb : w.heap[J]? = some (.cells #[.pointer (some ⟨f, 0, none⟩), v1, v2, .bool s.failed] JTY (0, 0))
  row1 : w.ownsRow B STR 1 v1 s.recs.length (recsV s.recs)
  row2 : w.ownsRow B INT 1 v2 s.ends.length (endsV s.ends)
  ge : B ≤ J
theorem JourAt.cells {B : Nat} {w : World} {J f : Nat} {v1 v2 : Value} {s : JS} (h : JourAt B w J f v1 v2 s) :
    w.cell? ⟨J, 0, none⟩ = some (.pointer (some ⟨f, 0, none⟩)) ∧ w.cell? ⟨J, 1, none⟩ = some v1 ∧ w.cell? ⟨J, 2, none⟩ = some v2 ∧ w.cell? ⟨J, 3, none⟩ = some (.bool s.failed) ∧ (∀ o, w.frozen? ⟨J, o, none⟩ = false) ∧ J < w.heap.size := by
  have hc := fun j => cell_of_row w J j _ JTY (0, 0) h.jb
  refine ⟨hc 0, hc 1, hc 2, hc 3, fun o => ?_, (Array.getElem?_eq_some_iff.1 h.jb).1⟩
  simp [World.frozen?, h.jb]
theorem JourAt.below {B : Nat} {w w' : World} {J f : Nat} {v1 v2 : Value} {s : JS} (h : JourAt B w J f v1 v2 s) (hb : Below w.heap.size w w') : JourAt B w' J f v1 v2 s :=
  ⟨(hb.block J (Array.getElem?_eq_some_iff.1 h.jb).1).trans h.jb, own_below h.row1 hb, own_below h.row2 hb, h.ge⟩
/-- What an operation of the file leaves alone: blocks of the journal. -/
theorem JourAt.touch {B base : Nat} {w w' : World} {J f b : Nat} {v1 v2 v : Value} {s : JS} {t : FS} {row : Option Nat} (h : JourAt B w J f v1 v2 s) (hf : FileAt base w b v t) (ht : Touch b row w w') (hr : row = none ∨ row = v.ownBlock) : JourAt B w' J f v1 v2 s := by
  have key : ∀ k cs ty fr, w.heap[k]? = some (Obj.cells cs ty fr) → ty ≠ 81 → ty ≠ 5 → w'.heap[k]? = w.heap[k]? := fun k cs ty fr hk h1 h2 =>
    ht.block k (Array.getElem?_eq_some_iff.1 hk).1 (by rintro rfl; have := hf.blk; rw [hk] at this; injection this with this; injection this with _ e _; exact h1 e)
      (by rcases hr with rfl | rfl
          · simp
          · exact own_ty hf.row hk h2)
  refine ⟨(key J _ _ _ h.jb (by decide) (by decide)).trans h.jb, row_touch h.row1 fun k hk hlt => ?_, row_touch h.row2 fun k hk hlt => ?_, h.ge⟩
  · obtain ⟨_, cur, hc⟩ := own_none_or h.row1 hk
    exact key k _ _ _ hc (by decide) (by decide)
  · obtain ⟨_, cur, hc⟩ := own_none_or h.row2 hk
    exact key k _ _ _ hc (by decide) (by decide)
theorem touch_below {b base : Nat} {row : Option Nat} {w w' : World} (h : Touch b row w w') (h0 : base ≤ w.heap.size) (hb : base ≤ b) (hr : ∀ k, row = some k → base ≤ k) : Below base w w' :=
  ⟨h.os, h.tape, h.output, h.size, fun k hk => h.block k (by omega) (by omega) (fun e => by have := hr k e.symm; omega)⟩
theorem jready_any (B J f : Nat) (v1 v2 : Value) (s : JS) (w : World) (h : JourAt B w J f v1 v2 s) :
    Calls Try.prog 51 #[.pointer (some ⟨J, 0, none⟩)] w fun e w' => e = .returned (.int .i64 (if s.failed then 36 else 0)) ∧ w' = w := by
  obtain ⟨c0, c1, c2, c3, fr, hlt⟩ := h.cells
  cases hd : s.failed
  · rw [hd] at c3
    go_enter Try.func51, Try.ntmps51
    go_wp2
    go_returns
    exact ⟨rfl, rfl⟩
  · rw [hd] at c3
    go_enter Try.func51, Try.ntmps51
    go_wp2
    go_returns
    exact ⟨rfl, rfl⟩
theorem jlen_any (B J f : Nat) (v1 v2 : Value) (s : JS) (w : World) (h : JourAt B w J f v1 v2 s) :
    Calls Try.prog 32 #[.pointer (some ⟨J, 0, none⟩)] w fun e w' => e = .returned (.int .i64 (s.recs.length : Int)) ∧ w' = w := by
  obtain ⟨c0, c1, c2, c3, fr, hlt⟩ := h.cells
  obtain ⟨A, c, rfl⟩ := row_form h.row1
  go_enter Try.func32, Try.ntmps32
  go_wp2
  go_returns
  exact ⟨rfl, rfl⟩
/-- The deferred closure of Append, in a journal that has not failed. -/
theorem jdefer_any (Tb Eb J : Nat) (er : Int) (w : World) (h0 : w.cell? ⟨Tb, 0, none⟩ = some (.pointer (some ⟨J, 0, none⟩))) (h1 : w.cell? ⟨Eb, 0, none⟩ = some (.int .i64 er)) (h3 : w.cell? ⟨J, 3, none⟩ = some (.bool false)) (hf : w.frozen? ⟨J, 3, none⟩ = false) :
    CallsD Try.prog 52 #[.pointer (some ⟨Tb, 0, none⟩), .pointer (some ⟨Eb, 0, none⟩)] .returning w fun e u' w' => u' = .returning ∧ e = .returned (.tuple #[]) ∧ w' = (w.setCell ⟨J, 3, none⟩ (.bool (er == 36))).drew := by
  go_enter_d Try.func52, Try.ntmps52
  go_region
  go_end0
  exact ⟨rfl, rfl⟩
/-- The deferred closure of Sync, in a journal that has not failed. -/
theorem jsdefer_any (Tb Eb J : Nat) (er : Int) (w : World) (h0 : w.cell? ⟨Tb, 0, none⟩ = some (.pointer (some ⟨J, 0, none⟩))) (h1 : w.cell? ⟨Eb, 0, none⟩ = some (.int .i64 er)) (h3 : w.cell? ⟨J, 3, none⟩ = some (.bool false)) (hf : w.frozen? ⟨J, 3, none⟩ = false) :
    CallsD Try.prog 53 #[.pointer (some ⟨Tb, 0, none⟩), .pointer (some ⟨Eb, 0, none⟩)] .returning w fun e u' w' => u' = .returning ∧ e = .returned (.tuple #[]) ∧ w' = (w.setCell ⟨J, 3, none⟩ (.bool (er == 36))).drew := by
  go_enter_d Try.func53, Try.ntmps53
  go_region
  go_end0
  exact ⟨rfl, rfl⟩
end Go.Proofs.Ythfnpakddnnccaa
