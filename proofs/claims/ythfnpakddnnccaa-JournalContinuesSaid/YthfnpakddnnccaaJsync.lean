/- Sync, All, Get of the journal: contracts. -/
import Derived.Test.YthfnpakddnnccaaJapp2
namespace Go.Proofs.Ythfnpakddnnccaa
open Go.RowKit
set_option linter.unusedVariables false

theorem AppI.stepN {B J f Tb Eb : Nat} {v1 v2 v : Value} {s : JS} {t t' : FS} {er : Int} {w W W' : World} (h : AppI B J f Tb Eb v1 v2 v s t er w W) (hF : FileAt B W' f v t') (ht : Touch f none W W') : AppI B J f Tb Eb v1 v2 v s t' er w W' :=
  h.step hF ⟨ht.os, ht.tape, ht.output, ht.size, fun k h1 h2 _ => ht.block k h1 h2 (by simp)⟩
theorem AppI.leaveS {B J f Tb Eb : Nat} {v1 v2 v : Value} {s : JS} {t : FS} {er : Int} {w W : World} (h : AppI B J f Tb Eb v1 v2 v s t er w W) (hff : s.failed = false) (fn : Func) (tm : Array Value) (res : Value)
    (hres : ∀ X : World, X.cell? ⟨Eb, 0, none⟩ = some (.int .i64 er) → (results fn tm).run Try.prog X = .ok res X) {R : Ending → World → Prop}
    (hR : ∀ X : World, JourAt B X J f v1 v2 { s with failed := er == 36 } → FileAt B X f v t → Below B w X → R (.returned res) X) :
    bodyPostD Try.prog fn R .ret { tmps := tm, defers := [⟨.fn (.func 53) #[.pointer (some ⟨Tb, 0, none⟩), .pointer (some ⟨Eb, 0, none⟩)], #[]⟩] } W := by
  obtain ⟨m0, m1, m2, m3, mfr, mlt⟩ := h.jour.cells
  rw [hff] at m3
  refine leaves_cons (f := 53) (args := #[.pointer (some ⟨Tb, 0, none⟩), .pointer (some ⟨Eb, 0, none⟩)]) (by simp) (by simp [go_sem]) ?_
  refine (jsdefer_any Tb Eb J er _ h.tb.cell h.eb.cell m3 (mfr 3)).mono ?_
  rintro e u' w'' ⟨rfl, rfl, rfl⟩
  obtain ⟨a1, a2, a3, a4⟩ := h.door (er == (36 : Int))
  exact ⟨_, hres _ a4.cell, hR _ a1 a2 a3⟩
set_option maxRecDepth 100000 in
theorem jsync_no (B J f : Nat) (v1 v2 v : Value) (s : JS) (t : FS) (w : World) (h : JourAt B w J f v1 v2 s) (hF : FileAt B w f v t) (hB : B ≤ w.heap.size) (hff : s.failed = true) :
    Calls Try.prog 28 #[.pointer (some ⟨J, 0, none⟩)] w fun e w' => e = .returned (.int .i64 36) ∧ Below w.heap.size w w' := by
  have hmf : ∀ (fn : Fn) (first cap : Array Value) (w : World), (Instr.makeFunc fn first cap).run Try.prog w = .ok (.func fn first cap) w := fun _ _ _ _ => rfl
  have I0 := AppI.enter (h) hF hB
  have cr := jready_any B J f v1 v2 s _ I0.jour
  rw [hff] at cr
  simp only [if_true] at cr
  have HI0 := Lib.hid I0
  have b0 : Below w.heap.size w ((w.alloc (.cells #[.pointer (some ⟨J, 0, none⟩)] PJ)).alloc (.cells #[.int .i64 0] ERR)) := ((Below.refl _ w).alloc (Nat.le_refl _) _).alloc (by simp) _
  clear I0 h hF
  go_enter_defers Try.func28, Try.ntmps28
  go_wp2_with fail
  refine cr.mono ?_
  rintro e w1 ⟨rfl, hw⟩
  rw [← hw] at HI0 b0
  clear hw cr
  have e0 := HI0.out.eb.cell
  have e1 := HI0.out.eb.frozen
  go_wp2
  have a5 := (HI0.out.err 36).eb.cell
  have b1 := b0.setCell (p := ⟨w.heap.size + 1, 0, none⟩) (by show w.heap.size ≤ w.heap.size + 1; omega) (.int .i64 36)
  generalize (w1.setCell ⟨w.heap.size + 1, 0, none⟩ (.int .i64 36)) = X at a5 b1 ⊢
  refine ⟨_, ?_, rfl, b1⟩
  simp [results, Try.results28, go_sem, a5]
set_option maxRecDepth 100000 in
theorem jsync_any (B J f : Nat) (v1 v2 v : Value) (s : JS) (t : FS) (w : World) (h : JourAt B w J f v1 v2 s) (hF : FileAt B w f v t) (hB : B ≤ w.heap.size) (hff : s.failed = false)
    (hl : -1 ≤ t.lim) (hu : t.lim < 9223372036854775808) :
    Calls Try.prog 28 #[.pointer (some ⟨J, 0, none⟩)] w fun e w' => e = .returned (.int .i64 (fSync t).2) ∧ JourAt B w' J f v1 v2 { s with failed := (fSync t).2 == 36 } ∧ FileAt B w' f v (fSync t).1 ∧ Below B w w' := by
  have hmf : ∀ (fn : Fn) (first cap : Array Value) (w : World), (Instr.makeFunc fn first cap).run Try.prog w = .ok (.func fn first cap) w := fun _ _ _ _ => rfl
  have I0 := AppI.enter (h) hF hB
  have cr := jready_any B J f v1 v2 s _ I0.jour
  rw [hff] at cr
  simp only [Bool.false_eq_true, if_false] at cr
  have HI0 := Lib.hid I0
  clear I0 h hF
  go_enter_defers Try.func28, Try.ntmps28
  go_wp2_with fail
  refine cr.mono ?_
  rintro e w1 ⟨rfl, hw⟩
  rw [← hw] at HI0
  clear hw cr
  have e0 := HI0.out.eb.cell
  have e1 := HI0.out.eb.frozen
  have c0 := HI0.out.tb.cell
  obtain ⟨d0, d1, d2, d3, dfr, dlt⟩ := HI0.out.jour.cells
  have cA := fileSync_any B f v t _ HI0.out.file hl hu
  go_wp2_with fail
  refine cA.mono ?_
  rintro e w4 ⟨rfl, hF4, t4⟩
  have HI4 := Lib.hid (HI0.out.stepN hF4 t4)
  clear c0 d0 d1 d2 d3 dfr dlt e0 e1 HI0 cA hF4 t4
  have e0 := HI4.out.eb.cell
  have e1 := HI4.out.eb.frozen
  go_wp2
  refine (HI4.out.err _).leaveS hff _ _ (.int .i64 (fSync t).2) (fun X a5 => ?_) (fun X a1 a2 a3 => ⟨rfl, a1, a2, a3⟩)
  simp [results, Try.results28, go_sem, a5]
end Go.Proofs.Ythfnpakddnnccaa
