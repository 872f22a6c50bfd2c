/- Append of the journal: its errors. -/
import Derived.Test.YthfnpakddnnccaaJapp
namespace Go.Proofs.Ythfnpakddnnccaa
open Go.RowKit
set_option linter.unusedVariables false

/-- The receiver's and the error's boxes, made at the entry. -/
theorem AppI.enter {B J f : Nat} {v1 v2 v : Value} {s : JS} {t : FS} {w : World} (h : JourAt B w J f v1 v2 s) (hF : FileAt B w f v t) (hB : B ≤ w.heap.size) :
    AppI B J f w.heap.size (w.heap.size + 1) v1 v2 v s t 0 w ((w.alloc (.cells #[.pointer (some ⟨J, 0, none⟩)] PJ)).alloc (.cells #[.int .i64 0] ERR)) := by
  have hb0 : Below w.heap.size w ((w.alloc (.cells #[.pointer (some ⟨J, 0, none⟩)] PJ)).alloc (.cells #[.int .i64 0] ERR)) := ((Below.refl _ w).alloc (Nat.le_refl _) _).alloc (by simp) _
  exact ⟨(Boxed.new w PJ _).alloc _, by have := Boxed.new (w.alloc (.cells #[.pointer (some ⟨J, 0, none⟩)] PJ)) ERR (.int .i64 0); rw [World.size_alloc] at this; exact this, h.below hb0, hF.below hb0, hb0.mono hB, Nat.le_trans hB hb0.size, hB, by omega⟩
/-- Behind the door, the deferred closure having run. -/
theorem AppI.leave {B J f Tb Eb : Nat} {v1 v2 v : Value} {s : JS} {t : FS} {er : Int} {w W : World} (h : AppI B J f Tb Eb v1 v2 v s t er w W) (hff : s.failed = false) (fn : Func) (tm : Array Value) (res : Value)
    (hres : ∀ X : World, X.cell? ⟨Eb, 0, none⟩ = some (.int .i64 er) → (results fn tm).run Try.prog X = .ok res X) {R : Ending → World → Prop}
    (hR : ∀ X : World, JourAt B X J f v1 v2 { s with failed := er == 36 } → FileAt B X f v t → Below B w X → R (.returned res) X) :
    bodyPostD Try.prog fn R .ret { tmps := tm, defers := [⟨.fn (.func 52) #[.pointer (some ⟨Tb, 0, none⟩), .pointer (some ⟨Eb, 0, none⟩)], #[]⟩] } W := by
  obtain ⟨m0, m1, m2, m3, mfr, mlt⟩ := h.jour.cells
  rw [hff] at m3
  refine leaves_cons (f := 52) (args := #[.pointer (some ⟨Tb, 0, none⟩), .pointer (some ⟨Eb, 0, none⟩)]) (by simp) (by simp [go_sem]) ?_
  refine (jdefer_any Tb Eb J er _ h.tb.cell h.eb.cell m3 (mfr 3)).mono ?_
  rintro e u' w'' ⟨rfl, rfl, rfl⟩
  obtain ⟨a1, a2, a3, a4⟩ := h.door (er == (36 : Int))
  exact ⟨_, hres _ a4.cell, hR _ a1 a2 a3⟩
set_option maxRecDepth 100000 in
set_option maxHeartbeats 1000000 in
theorem jappend_no (B J f : Nat) (v1 v2 v : Value) (s : JS) (t : FS) (r : ByteArray) (w : World) (h : JourAt B w J f v1 v2 s) (hF : FileAt B w f v t) (hB : B ≤ w.heap.size) (hff : s.failed = true) :
    Calls Try.prog 27 #[.pointer (some ⟨J, 0, none⟩), .string r] w fun e w' => e = .returned (.tuple #[.int .i64 0, .int .i64 36]) ∧ Below w.heap.size w w' := by
  have hmf : ∀ (fn : Fn) (first cap : Array Value) (w : World), (Instr.makeFunc fn first cap).run Try.prog w = .ok (.func fn first cap) w := fun _ _ _ _ => rfl
  have I0 := AppI.enter h hF hB
  have cr := jready_any B J f v1 v2 s _ I0.jour
  rw [hff] at cr
  simp only [if_true] at cr
  have HI0 := Lib.hid I0
  have b0 : Below w.heap.size w ((w.alloc (.cells #[.pointer (some ⟨J, 0, none⟩)] PJ)).alloc (.cells #[.int .i64 0] ERR)) := ((Below.refl _ w).alloc (Nat.le_refl _) _).alloc (by simp) _
  clear I0 h hF
  go_enter_defers Try.func27, Try.ntmps27
  go_wp2_with fail
  refine cr.mono ?_
  rintro e w1 ⟨rfl, hw⟩
  rw [← hw] at HI0 b0
  clear hw cr
  have e0 := HI0.out.eb.cell
  have e1 := HI0.out.eb.frozen
  go_wp2
  have a5 := (HI0.out.err 36).eb.cell
  have b1 := b0.setCell (p := ⟨w.heap.size + 1, 0, none⟩) (by show w.heap.size ≤ w.heap.size + 1; omega) (.int .i64 36)
  generalize (w1.setCell ⟨w.heap.size + 1, 0, none⟩ (.int .i64 36)) = X at a5 b1 ⊢
  refine ⟨_, ?_, rfl, b1⟩
  simp [results, Try.results27, go_sem, a5]
set_option maxRecDepth 100000 in
set_option maxHeartbeats 1000000 in
theorem jappend_long (B J f : Nat) (v1 v2 v : Value) (s : JS) (t : FS) (r : ByteArray) (w : World) (h : JourAt B w J f v1 v2 s) (hF : FileAt B w f v t) (hB : B ≤ w.heap.size) (hff : s.failed = false) (hr : 65536 < r.size) (hr2 : r.size ≤ maxLen) (hn : s.recs.length ≤ 65536) :
    Calls Try.prog 27 #[.pointer (some ⟨J, 0, none⟩), .string r] w fun e w' => e = .returned (.tuple #[.int .i64 0, .int .i64 5]) ∧
      JourAt B w' J f v1 v2 s ∧ FileAt B w' f v t ∧ Below B w w' := by
  have hmf : ∀ (fn : Fn) (first cap : Array Value) (w : World), (Instr.makeFunc fn first cap).run Try.prog w = .ok (.func fn first cap) w := fun _ _ _ _ => rfl
  have I0 := AppI.enter h hF hB
  have cr := jready_any B J f v1 v2 s _ I0.jour
  rw [hff] at cr
  simp only [Bool.false_eq_true, if_false] at cr
  obtain ⟨A1, c1, rfl⟩ := row_form h.row1
  obtain ⟨A2, c2, rfl⟩ := row_form h.row2
  have ce := fun w => encode_long s.recs.length r w hr2 (by omega) (by omega) hr
  have HI0 := Lib.hid I0
  have c0 := I0.tb.cell
  clear I0 h hF
  go_enter_defers Try.func27, Try.ntmps27
  go_wp2_with fail
  refine cr.mono ?_
  rintro e w1 ⟨rfl, hw⟩
  rw [← hw] at HI0 c0
  clear hw cr
  obtain ⟨d0, d1, d2, d3, dfr, dlt⟩ := HI0.out.jour.cells
  have e0 := HI0.out.eb.cell
  have e1 := HI0.out.eb.frozen
  go_wp2_with fail
  refine (ce _).mono ?_
  rintro e w2 ⟨rfl, rfl⟩
  go_wp2
  have HI2 := Lib.hid (HI0.out.err 5)
  generalize (w2.setCell ⟨w.heap.size + 1, 0, none⟩ (.int .i64 5)) = W5 at HI2 ⊢
  clear HI0 e0 e1 d0 d1 d2 d3 dfr dlt c0
  have e0 := HI2.out.eb.cell
  have e1 := HI2.out.eb.frozen
  go_region
  have hs : { s with failed := (5 : Int) == 36 } = s := by cases s; simp at hff; subst hff; rfl
  have I2 := (HI2.out.err 5).later (W' := (W5.setCell ⟨w.heap.size + 1, 0, none⟩ (.int .i64 5)).drew) ⟨rfl, rfl, rfl, Nat.le_refl _, fun _ _ => rfl⟩
  go_wp2
  refine I2.leave hff _ _ (.tuple #[.int .i64 0, .int .i64 5]) (fun X a5 => ?_) (fun X a1 a2 a3 => ⟨rfl, hs ▸ a1, a2, a3⟩)
  simp [results, Try.results27, go_sem, a5]
set_option maxRecDepth 100000 in
set_option maxHeartbeats 1000000 in
theorem jappend_down (B J f : Nat) (v1 v2 v : Value) (s : JS) (t : FS) (r : ByteArray) (w : World) (h : JourAt B w J f v1 v2 s) (hF : FileAt B w f v t) (hB : B ≤ w.heap.size) (hff : s.failed = false) (hr : r.size ≤ 65536) (hn : s.recs.length ≤ 65536)
    (hl : -1 ≤ t.lim) (hu : t.lim < 9223372036854775808) (hsz : t.bytes.size + (12 + r.size) ≤ 16777216) (hno : (fAppend (encS s.recs.length r) t).2 = 36) :
    Calls Try.prog 27 #[.pointer (some ⟨J, 0, none⟩), .string r] w fun e w' => e = .returned (.tuple #[.int .i64 0, .int .i64 36]) ∧
      ∃ v', JourAt B w' J f v1 v2 { s with failed := true } ∧ FileAt B w' f v' (fAppend (encS s.recs.length r) t).1 ∧ Below B w w' := by
  have hmf : ∀ (fn : Fn) (first cap : Array Value) (w : World), (Instr.makeFunc fn first cap).run Try.prog w = .ok (.func fn first cap) w := fun _ _ _ _ => rfl
  have hz := size_enc s.recs.length r
  have I0 := AppI.enter h hF hB
  have cr := jready_any B J f v1 v2 s _ I0.jour
  rw [hff] at cr
  simp only [Bool.false_eq_true, if_false] at cr
  obtain ⟨A1, c1, rfl⟩ := row_form h.row1
  obtain ⟨A2, c2, rfl⟩ := row_form h.row2
  have ce := fun w => encode_ok s.recs.length r w (by omega) hr
  have HI0 := Lib.hid I0
  have c0 := I0.tb.cell
  clear I0 h hF
  go_enter_defers Try.func27, Try.ntmps27
  go_wp2_with fail
  refine cr.mono ?_
  rintro e w1 ⟨rfl, hw⟩
  rw [← hw] at HI0 c0
  clear hw cr
  obtain ⟨d0, d1, d2, d3, dfr, dlt⟩ := HI0.out.jour.cells
  have e0 := HI0.out.eb.cell
  have e1 := HI0.out.eb.frozen
  go_wp2_with fail
  refine (ce _).mono ?_
  rintro e w2 ⟨rfl, hb2⟩
  have HI2 := Lib.hid (HI0.out.later hb2)
  clear HI0 c0 d0 d1 d2 d3 dfr dlt e0 e1 hb2 ce
  have c0 := HI2.out.tb.cell
  obtain ⟨d0, d1, d2, d3, dfr, dlt⟩ := HI2.out.jour.cells
  have e0 := HI2.out.eb.cell
  have e1 := HI2.out.eb.frozen
  have HI3 := Lib.hid (HI2.out.err 0)
  have cA := fileAppend_any B f v t (encS s.recs.length r) _ HI3.out.file hl hu (by omega) HI3.out.hB
  rw [hno] at cA
  have f0 := HI3.out.tb.cell
  obtain ⟨m0, m1, m2, m3, mfr, mlt⟩ := HI3.out.jour.cells
  go_wp2_with fail
  refine cA.mono ?_
  rintro e w4 ⟨rfl, v', hF4, t4⟩
  have HI4 := Lib.hid (HI3.out.step hF4 t4)
  clear c0 d0 d1 d2 d3 dfr dlt e0 e1 m0 m1 m2 m3 mfr mlt f0 HI3 HI2 cA hF4 t4
  have e0 := HI4.out.eb.cell
  have e1 := HI4.out.eb.frozen
  go_wp2
  have HI5 := Lib.hid (HI4.out.err 36)
  generalize (w4.setCell ⟨w.heap.size + 1, 0, none⟩ (.int .i64 36)) = W5 at HI5 ⊢
  clear HI4 e0 e1
  have e0 := HI5.out.eb.cell
  have e1 := HI5.out.eb.frozen
  go_region
  have I6 := (HI5.out.err 36).later (W' := (W5.setCell ⟨w.heap.size + 1, 0, none⟩ (.int .i64 36)).drew) ⟨rfl, rfl, rfl, Nat.le_refl _, fun _ _ => rfl⟩
  go_wp2
  refine I6.leave hff _ _ (.tuple #[.int .i64 0, .int .i64 36]) (fun X a5 => ?_) (fun X a1 a2 a3 => ⟨rfl, _, a1, a2, a3⟩)
  simp [results, Try.results27, go_sem, a5]
end Go.Proofs.Ythfnpakddnnccaa
