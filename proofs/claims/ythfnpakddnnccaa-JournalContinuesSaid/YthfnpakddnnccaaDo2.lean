/- The law's do: kinds 0 to 3, without power; kind 2. -/
import Derived.Test.YthfnpakddnnccaaDo
namespace Go.Proofs.Ythfnpakddnnccaa
open Go.RowKit
set_option linter.unusedVariables false

theorem tmod_cases {kd : Int} (k0 : 0 ≤ kd) {j : Int} (hk : kd % 7 = j) : kd.tmod 7 = j := by rw [Int.tmod_eq_emod_of_nonneg k0]; exact hk
set_option maxRecDepth 100000 in
set_option maxHeartbeats 4000000 in
theorem do_down (b : Nat) (s : FS) (kd : Int) (t : ByteArray) (n : Int) (d : Nat) (w : World) (h : ModelAt w b s) (k0 : 0 ≤ kd) (k1 : kd < 256) (hd : s.down = true) (hk : kd % 7 = 0 ∨ kd % 7 = 1 ∨ kd % 7 = 2 ∨ kd % 7 = 3) :
    Calls Try.prog 57 #[.pointer (some ⟨b, 0, none⟩), opV kd t n d] w fun e w' => e = .returned (.int .i64 36) ∧ ModelAt w' b s ∧ Touch b none w w' := by
  unfold opV
  have hB : Below w.heap.size w (w.alloc (.cells #[.int .u8 kd, .string t, .int .i64 n, .int .u8 (d : Int)] 88)) := (Below.refl _ _).alloc (Nat.le_refl _) _
  have h1 := h.below hB
  have t1 : Touch b none w _ := Touch.ofBelow hB
  obtain ⟨c0, c1, c2, c3, fr, hlt⟩ := h1.cells
  have H1 := Lib.hid h1
  have T1 := Lib.hid t1
  rw [hd] at c3
  clear fr h1 t1 hB hd
  rcases hk with hk | hk | hk | hk
  all_goals
    have hm := tmod_cases k0 hk
    clear hk
    go_enter Try.func57, Try.ntmps57
    go_wp2_with fail
    go_returns
    exact ⟨rfl, H1.out, T1.out⟩
set_option maxRecDepth 100000 in
set_option maxHeartbeats 4000000 in
theorem do_2a (b : Nat) (s : FS) (kd : Int) (t : ByteArray) (n : Int) (d : Nat) (w : World) (h : ModelAt w b s) (k0 : 0 ≤ kd) (k1 : kd < 256) (hk : kd % 7 = 2) (hd : s.down = false) (hl : -1 ≤ s.lim) (hu : s.lim < 9223372036854775808) (h0 : s.lim = 0) :
    Calls Try.prog 57 #[.pointer (some ⟨b, 0, none⟩), opV kd t n d] w fun e w' => e = .returned (.int .i64 36) ∧ ModelAt w' b { s with down := true } ∧ Touch b none w w' := by
  unfold opV
  have hm := tmod_cases k0 hk
  have hB : Below w.heap.size w (w.alloc (.cells #[.int .u8 kd, .string t, .int .i64 n, .int .u8 (d : Int)] 88)) := (Below.refl _ _).alloc (Nat.le_refl _) _
  have h1 := h.below hB
  have t1 : Touch b none w _ := Touch.ofBelow hB
  obtain ⟨c0, c1, c2, c3, fr, hlt⟩ := h1.cells
  have T1 := Lib.hid t1
  have cs := step_any b s _ h1 hl hu
  rw [hd] at c3
  rw [fOp_0 h0, decide_eq_true h0] at cs
  clear fr h1 t1 hB hd hk h0 hl hu
  go_enter Try.func57, Try.ntmps57
  go_wp2_with fail
  refine cs.mono ?_
  rintro e w2 ⟨rfl, h2, t2⟩
  go_wp2_with fail
  go_returns
  exact ⟨rfl, h2, T1.out.trans t2⟩
set_option maxRecDepth 100000 in
set_option maxHeartbeats 4000000 in
theorem do_2b (b : Nat) (s : FS) (kd : Int) (t : ByteArray) (n : Int) (d : Nat) (w : World) (h : ModelAt w b s) (k0 : 0 ≤ kd) (k1 : kd < 256) (hk : kd % 7 = 2) (hd : s.down = false) (hl : -1 ≤ s.lim) (hu : s.lim < 9223372036854775808) (h0 : ¬ s.lim = 0) :
    Calls Try.prog 57 #[.pointer (some ⟨b, 0, none⟩), opV kd t n d] w fun e w' => e = .returned (.int .i64 0) ∧ ModelAt w' b { s with lim := max (s.lim - 1) (-1), syn := s.bytes.size } ∧ Touch b none w w' := by
  unfold opV
  have hm := tmod_cases k0 hk
  have hB : Below w.heap.size w (w.alloc (.cells #[.int .u8 kd, .string t, .int .i64 n, .int .u8 (d : Int)] 88)) := (Below.refl _ _).alloc (Nat.le_refl _) _
  have h1 := h.below hB
  have t1 : Touch b none w _ := Touch.ofBelow hB
  obtain ⟨c0, c1, c2, c3, fr, hlt⟩ := h1.cells
  have T1 := Lib.hid t1
  have cs := step_any b s _ h1 hl hu
  rw [hd] at c3
  rw [fOp_1 h0, decide_eq_false h0] at cs
  clear fr h1 t1 hB hd hk h0 hl hu
  go_enter Try.func57, Try.ntmps57
  go_wp2_with fail
  refine cs.mono ?_
  rintro e w2 ⟨rfl, h2, t2⟩
  clear c0 c1 c2 c3 hlt
  obtain ⟨c0, c1, c2, c3, fr, hlt⟩ := h2.cells
  have f1 := fr 1
  clear fr
  have H2 := Lib.hid h2
  clear h2
  go_wp2_with fail
  go_returns
  exact ⟨rfl, H2.out.set 1 _ rfl, (T1.out.trans t2).setCell 1 _⟩
end Go.Proofs.Ythfnpakddnnccaa
