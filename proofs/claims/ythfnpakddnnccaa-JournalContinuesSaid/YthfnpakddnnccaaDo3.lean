/- The law's do: kinds 0 and 1 with power. -/
import Derived.Test.YthfnpakddnnccaaDo2
namespace Go.Proofs.Ythfnpakddnnccaa
open Go.RowKit
set_option linter.unusedVariables false

/-- The boxed Op behind a call that turns block b alone. -/
theorem op_kept {w w2 : World} {b : Nat} {x y z u : Value} {T : TypeId} (hb : b < w.heap.size) (ht : Touch b none (w.alloc (.cells #[x, y, z, u] T)) w2) :
    w2.cell? ⟨w.heap.size, 0, none⟩ = some x ∧ w2.cell? ⟨w.heap.size, 1, none⟩ = some y ∧ w2.cell? ⟨w.heap.size, 2, none⟩ = some z ∧ w2.cell? ⟨w.heap.size, 3, none⟩ = some u := by
  have hh : w2.heap[w.heap.size]? = some (.cells #[x, y, z, u] T) := (ht.block w.heap.size (by rw [World.size_alloc]; exact Nat.lt_succ_self _) (by omega) (by simp)).trans (heap_alloc_last w _)
  have hc := fun j => cell_of_row w2 w.heap.size j #[x, y, z, u] T _ hh
  exact ⟨hc 0, hc 1, hc 2, hc 3⟩
set_option maxRecDepth 100000 in
set_option maxHeartbeats 4000000 in
theorem do_0a (b : Nat) (s : FS) (kd : Int) (t : ByteArray) (n : Int) (d : Nat) (w : World) (h : ModelAt w b s) (k0 : 0 ≤ kd) (k1 : kd < 256) (hk : kd % 7 = 0) (hd : s.down = false) (hl : -1 ≤ s.lim) (hu : s.lim < 9223372036854775808) (h0 : s.lim = 0) (hsz : s.bytes.size + t.size ≤ 16777216) :
    Calls Try.prog 57 #[.pointer (some ⟨b, 0, none⟩), opV kd t n d] w fun e w' => e = .returned (.int .i64 36) ∧ ModelAt w' b { s with bytes := s.bytes ++ t, down := true } ∧ Touch b none w w' := by
  unfold opV
  have hm := tmod_cases k0 hk
  have hB : Below w.heap.size w (w.alloc (.cells #[.int .u8 kd, .string t, .int .i64 n, .int .u8 (d : Int)] 88)) := (Below.refl _ _).alloc (Nat.le_refl _) _
  have h1 := h.below hB
  have t1 : Touch b none w _ := Touch.ofBelow hB
  obtain ⟨c0, c1, c2, c3, fr, hlt⟩ := h1.cells
  have T1 := Lib.hid t1
  have cs := step_any b s _ h1 hl hu
  rw [hd] at c3
  have ad := str_add s.bytes t (by omega)
  rw [fOp_0 h0, decide_eq_true h0] at cs
  clear fr h1 t1 hB hd hk h0 hl hu
  go_enter Try.func57, Try.ntmps57
  go_wp2_with fail
  refine cs.mono ?_
  rintro e w2 ⟨rfl, h2, t2⟩
  obtain ⟨o0, o1, o2, o3⟩ := op_kept h.cells.2.2.2.2.2 t2
  clear c0 c1 c2 c3 hlt
  obtain ⟨c0, c1, c2, c3, fr, hlt⟩ := h2.cells
  have f0 := fr 0
  clear fr
  have H2 := Lib.hid h2
  have T2 := Lib.hid (T1.out.trans t2)
  clear h2 t2 T1
  go_wp2_with fail
  go_region
  have h5 : ModelAt (w2.setCell ⟨b, 0, none⟩ (.string (s.bytes ++ t))).drew b { s with bytes := s.bytes ++ t, down := true } :=
    have h4 : ModelAt (w2.setCell ⟨b, 0, none⟩ (.string (s.bytes ++ t))) b { s with bytes := s.bytes ++ t, down := true } := H2.out.set 0 _ rfl
    h4.below (Below.refl _ _).drew
  have t5 : Touch b none w (w2.setCell ⟨b, 0, none⟩ (.string (s.bytes ++ t))).drew := (T2.out.setCell 0 _).trans (Touch.ofBelow (Below.refl _ _).drew)
  go_wp2_with fail
  go_returns
  exact ⟨rfl, h5, t5⟩
set_option maxRecDepth 100000 in
set_option maxHeartbeats 4000000 in
theorem do_0b (b : Nat) (s : FS) (kd : Int) (t : ByteArray) (n : Int) (d : Nat) (w : World) (h : ModelAt w b s) (k0 : 0 ≤ kd) (k1 : kd < 256) (hk : kd % 7 = 0) (hd : s.down = false) (hl : -1 ≤ s.lim) (hu : s.lim < 9223372036854775808) (h0 : ¬ s.lim = 0) (hsz : s.bytes.size + t.size ≤ 16777216) :
    Calls Try.prog 57 #[.pointer (some ⟨b, 0, none⟩), opV kd t n d] w fun e w' => e = .returned (.int .i64 0) ∧ ModelAt w' b { s with bytes := s.bytes ++ t, lim := max (s.lim - 1) (-1) } ∧ Touch b none w w' := by
  unfold opV
  have hm := tmod_cases k0 hk
  have hB : Below w.heap.size w (w.alloc (.cells #[.int .u8 kd, .string t, .int .i64 n, .int .u8 (d : Int)] 88)) := (Below.refl _ _).alloc (Nat.le_refl _) _
  have h1 := h.below hB
  have t1 : Touch b none w _ := Touch.ofBelow hB
  obtain ⟨c0, c1, c2, c3, fr, hlt⟩ := h1.cells
  have T1 := Lib.hid t1
  have cs := step_any b s _ h1 hl hu
  rw [hd] at c3
  have ad := str_add s.bytes t (by omega)
  rw [fOp_1 h0, decide_eq_false h0] at cs
  clear fr h1 t1 hB hd hk h0 hl hu
  go_enter Try.func57, Try.ntmps57
  go_wp2_with fail
  refine cs.mono ?_
  rintro e w2 ⟨rfl, h2, t2⟩
  obtain ⟨o0, o1, o2, o3⟩ := op_kept h.cells.2.2.2.2.2 t2
  clear c0 c1 c2 c3 hlt
  obtain ⟨c0, c1, c2, c3, fr, hlt⟩ := h2.cells
  have f0 := fr 0
  clear fr
  have H2 := Lib.hid h2
  have T2 := Lib.hid (T1.out.trans t2)
  clear h2 t2 T1
  go_wp2_with fail
  go_region
  have h5 : ModelAt (w2.setCell ⟨b, 0, none⟩ (.string (s.bytes ++ t))).drew b { s with bytes := s.bytes ++ t, lim := max (s.lim - 1) (-1) } :=
    have h4 : ModelAt (w2.setCell ⟨b, 0, none⟩ (.string (s.bytes ++ t))) b { s with bytes := s.bytes ++ t, lim := max (s.lim - 1) (-1) } := H2.out.set 0 _ rfl
    h4.below (Below.refl _ _).drew
  have t5 : Touch b none w (w2.setCell ⟨b, 0, none⟩ (.string (s.bytes ++ t))).drew := (T2.out.setCell 0 _).trans (Touch.ofBelow (Below.refl _ _).drew)
  go_wp2_with fail
  go_returns
  exact ⟨rfl, h5, t5⟩
set_option maxRecDepth 100000 in
set_option maxHeartbeats 4000000 in
theorem do_1a (b : Nat) (s : FS) (kd : Int) (t : ByteArray) (n : Int) (d : Nat) (w : World) (h : ModelAt w b s) (k0 : 0 ≤ kd) (k1 : kd < 256) (hk : kd % 7 = 1) (hd : s.down = false) (hl : -1 ≤ s.lim) (hu : s.lim < 9223372036854775808) (h0 : s.lim = 0) (hsz : s.bytes.size + t.size ≤ 16777216) :
    Calls Try.prog 57 #[.pointer (some ⟨b, 0, none⟩), opV kd t n d] w fun e w' => e = .returned (.int .i64 36) ∧ ModelAt w' b { s with bytes := s.bytes ++ t, down := true } ∧ Touch b none w w' := by
  unfold opV
  have hm := tmod_cases k0 hk
  have hB : Below w.heap.size w (w.alloc (.cells #[.int .u8 kd, .string t, .int .i64 n, .int .u8 (d : Int)] 88)) := (Below.refl _ _).alloc (Nat.le_refl _) _
  have h1 := h.below hB
  have t1 : Touch b none w _ := Touch.ofBelow hB
  obtain ⟨c0, c1, c2, c3, fr, hlt⟩ := h1.cells
  have T1 := Lib.hid t1
  have cs := step_any b s _ h1 hl hu
  rw [hd] at c3
  have ad := str_add s.bytes t (by omega)
  rw [fOp_0 h0, decide_eq_true h0] at cs
  clear fr h1 t1 hB hd hk h0 hl hu
  go_enter Try.func57, Try.ntmps57
  go_wp2_with fail
  refine cs.mono ?_
  rintro e w2 ⟨rfl, h2, t2⟩
  obtain ⟨o0, o1, o2, o3⟩ := op_kept h.cells.2.2.2.2.2 t2
  clear c0 c1 c2 c3 hlt
  obtain ⟨c0, c1, c2, c3, fr, hlt⟩ := h2.cells
  have f0 := fr 0
  clear fr
  have H2 := Lib.hid h2
  have T2 := Lib.hid (T1.out.trans t2)
  clear h2 t2 T1
  go_wp2_with fail
  go_region
  have h5 : ModelAt (w2.setCell ⟨b, 0, none⟩ (.string (s.bytes ++ t))).drew b { s with bytes := s.bytes ++ t, down := true } :=
    have h4 : ModelAt (w2.setCell ⟨b, 0, none⟩ (.string (s.bytes ++ t))) b { s with bytes := s.bytes ++ t, down := true } := H2.out.set 0 _ rfl
    h4.below (Below.refl _ _).drew
  have t5 : Touch b none w (w2.setCell ⟨b, 0, none⟩ (.string (s.bytes ++ t))).drew := (T2.out.setCell 0 _).trans (Touch.ofBelow (Below.refl _ _).drew)
  go_wp2_with fail
  go_returns
  exact ⟨rfl, h5, t5⟩
set_option maxRecDepth 100000 in
set_option maxHeartbeats 4000000 in
theorem do_1b (b : Nat) (s : FS) (kd : Int) (t : ByteArray) (n : Int) (d : Nat) (w : World) (h : ModelAt w b s) (k0 : 0 ≤ kd) (k1 : kd < 256) (hk : kd % 7 = 1) (hd : s.down = false) (hl : -1 ≤ s.lim) (hu : s.lim < 9223372036854775808) (h0 : ¬ s.lim = 0) (hsz : s.bytes.size + t.size ≤ 16777216) :
    Calls Try.prog 57 #[.pointer (some ⟨b, 0, none⟩), opV kd t n d] w fun e w' => e = .returned (.int .i64 0) ∧ ModelAt w' b { s with bytes := s.bytes ++ t, lim := max (s.lim - 1) (-1) } ∧ Touch b none w w' := by
  unfold opV
  have hm := tmod_cases k0 hk
  have hB : Below w.heap.size w (w.alloc (.cells #[.int .u8 kd, .string t, .int .i64 n, .int .u8 (d : Int)] 88)) := (Below.refl _ _).alloc (Nat.le_refl _) _
  have h1 := h.below hB
  have t1 : Touch b none w _ := Touch.ofBelow hB
  obtain ⟨c0, c1, c2, c3, fr, hlt⟩ := h1.cells
  have T1 := Lib.hid t1
  have cs := step_any b s _ h1 hl hu
  rw [hd] at c3
  have ad := str_add s.bytes t (by omega)
  rw [fOp_1 h0, decide_eq_false h0] at cs
  clear fr h1 t1 hB hd hk h0 hl hu
  go_enter Try.func57, Try.ntmps57
  go_wp2_with fail
  refine cs.mono ?_
  rintro e w2 ⟨rfl, h2, t2⟩
  obtain ⟨o0, o1, o2, o3⟩ := op_kept h.cells.2.2.2.2.2 t2
  clear c0 c1 c2 c3 hlt
  obtain ⟨c0, c1, c2, c3, fr, hlt⟩ := h2.cells
  have f0 := fr 0
  clear fr
  have H2 := Lib.hid h2
  have T2 := Lib.hid (T1.out.trans t2)
  clear h2 t2 T1
  go_wp2_with fail
  go_region
  have h5 : ModelAt (w2.setCell ⟨b, 0, none⟩ (.string (s.bytes ++ t))).drew b { s with bytes := s.bytes ++ t, lim := max (s.lim - 1) (-1) } :=
    have h4 : ModelAt (w2.setCell ⟨b, 0, none⟩ (.string (s.bytes ++ t))) b { s with bytes := s.bytes ++ t, lim := max (s.lim - 1) (-1) } := H2.out.set 0 _ rfl
    h4.below (Below.refl _ _).drew
  have t5 : Touch b none w (w2.setCell ⟨b, 0, none⟩ (.string (s.bytes ++ t))).drew := (T2.out.setCell 0 _).trans (Touch.ofBelow (Below.refl _ _).drew)
  go_wp2_with fail
  go_returns
  exact ⟨rfl, h5, t5⟩
end Go.Proofs.Ythfnpakddnnccaa
