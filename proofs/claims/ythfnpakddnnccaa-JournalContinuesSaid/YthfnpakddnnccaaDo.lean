/- The law's do: contract, kind by kind. -/
import Derived.Test.YthfnpakddnnccaaModel2
namespace Go.Proofs.Ythfnpakddnnccaa
open Go.RowKit
set_option linter.unusedVariables false

def opV (kd : Int) (t : ByteArray) (n : Int) (d : Nat) : Value := .agg #[.int .u8 kd, .string t, .int .i64 n, .int .u8 (d : Int)]
theorem op_box (w : World) (x y z u : Value) (T : TypeId) :
    (w.alloc (.cells #[x, y, z, u] T)).cell? ⟨w.heap.size, 0, none⟩ = some x ∧ (w.alloc (.cells #[x, y, z, u] T)).cell? ⟨w.heap.size, 1, none⟩ = some y ∧
    (w.alloc (.cells #[x, y, z, u] T)).cell? ⟨w.heap.size, 2, none⟩ = some z ∧ (w.alloc (.cells #[x, y, z, u] T)).cell? ⟨w.heap.size, 3, none⟩ = some u := ⟨by simp, by simp, by simp, by simp⟩

set_option maxRecDepth 100000 in
set_option maxHeartbeats 4000000 in
theorem do_5 (b : Nat) (s : FS) (kd : Int) (t : ByteArray) (n : Int) (d : Nat) (w : World) (h : ModelAt w b s) (k0 : 0 ≤ kd) (k1 : kd < 256) (hk : kd % 7 = 5) :
    Calls Try.prog 57 #[.pointer (some ⟨b, 0, none⟩), opV kd t n d] w fun e w' => e = .returned (.int .i64 0) ∧ ModelAt w' b { s with down := true } ∧ Touch b none w w' := by
  unfold opV
  have hm : kd.tmod 7 = 5 := by rw [Int.tmod_eq_emod_of_nonneg k0]; exact hk
  have hB : Below w.heap.size w (w.alloc (.cells #[.int .u8 kd, .string t, .int .i64 n, .int .u8 (d : Int)] 88)) := (Below.refl _ _).alloc (Nat.le_refl _) _
  have h1 := h.below hB
  have t1 : Touch b none w _ := Touch.ofBelow hB
  obtain ⟨c0, c1, c2, c3, fr, hlt⟩ := h1.cells
  have f1 := fr 1
  have f2 := fr 2
  have f3 := fr 3
  clear fr hk
  have H1 := Lib.hid h1
  have T1 := Lib.hid t1
  clear h1 t1 hB
  go_enter Try.func57, Try.ntmps57
  go_wp2_with fail
  go_returns
  exact ⟨rfl, H1.out.set 3 _ rfl, T1.out.setCell 3 _⟩
set_option maxRecDepth 100000 in
set_option maxHeartbeats 4000000 in
theorem do_4a (b : Nat) (s : FS) (kd : Int) (t : ByteArray) (n : Int) (d : Nat) (w : World) (h : ModelAt w b s) (k0 : 0 ≤ kd) (k1 : kd < 256) (hk : kd % 7 = 4) (hn : n < -1) :
    Calls Try.prog 57 #[.pointer (some ⟨b, 0, none⟩), opV kd t n d] w fun e w' => e = .returned (.int .i64 0) ∧ ModelAt w' b { s with lim := -1 } ∧ Touch b none w w' := by
  unfold opV
  have hm : kd.tmod 7 = 4 := by rw [Int.tmod_eq_emod_of_nonneg k0]; exact hk
  have hB : Below w.heap.size w (w.alloc (.cells #[.int .u8 kd, .string t, .int .i64 n, .int .u8 (d : Int)] 88)) := (Below.refl _ _).alloc (Nat.le_refl _) _
  have h1 := h.below hB
  have t1 : Touch b none w _ := Touch.ofBelow hB
  obtain ⟨c0, c1, c2, c3, fr, hlt⟩ := h1.cells
  have f1 := fr 1
  have f2 := fr 2
  have f3 := fr 3
  clear fr hk
  have H1 := Lib.hid h1
  have T1 := Lib.hid t1
  clear h1 t1 hB
  go_enter Try.func57, Try.ntmps57
  go_wp2_with fail
  go_returns
  exact ⟨rfl, H1.out.set 2 _ rfl, T1.out.setCell 2 _⟩
set_option maxRecDepth 100000 in
set_option maxHeartbeats 4000000 in
theorem do_4b (b : Nat) (s : FS) (kd : Int) (t : ByteArray) (n : Int) (d : Nat) (w : World) (h : ModelAt w b s) (k0 : 0 ≤ kd) (k1 : kd < 256) (hk : kd % 7 = 4) (hn : ¬ n < -1) :
    Calls Try.prog 57 #[.pointer (some ⟨b, 0, none⟩), opV kd t n d] w fun e w' => e = .returned (.int .i64 0) ∧ ModelAt w' b { s with lim := n } ∧ Touch b none w w' := by
  unfold opV
  have hm : kd.tmod 7 = 4 := by rw [Int.tmod_eq_emod_of_nonneg k0]; exact hk
  have hB : Below w.heap.size w (w.alloc (.cells #[.int .u8 kd, .string t, .int .i64 n, .int .u8 (d : Int)] 88)) := (Below.refl _ _).alloc (Nat.le_refl _) _
  have h1 := h.below hB
  have t1 : Touch b none w _ := Touch.ofBelow hB
  obtain ⟨c0, c1, c2, c3, fr, hlt⟩ := h1.cells
  have f1 := fr 1
  have f2 := fr 2
  have f3 := fr 3
  clear fr hk
  have H1 := Lib.hid h1
  have T1 := Lib.hid t1
  clear h1 t1 hB
  go_enter Try.func57, Try.ntmps57
  go_wp2_with fail
  go_returns
  exact ⟨rfl, H1.out.set 2 _ rfl, T1.out.setCell 2 _⟩
set_option maxRecDepth 100000 in
set_option maxHeartbeats 4000000 in
theorem do_6a (b : Nat) (s : FS) (kd : Int) (t : ByteArray) (n : Int) (d : Nat) (w : World) (h : ModelAt w b s) (k0 : 0 ≤ kd) (k1 : kd < 256) (hk : kd % 7 = 6) (hd : s.down = false) :
    Calls Try.prog 57 #[.pointer (some ⟨b, 0, none⟩), opV kd t n d] w fun e w' => e = .returned (.int .i64 10) ∧ ModelAt w' b s ∧ Touch b none w w' := by
  unfold opV
  have hm : kd.tmod 7 = 6 := by rw [Int.tmod_eq_emod_of_nonneg k0]; exact hk
  have hB : Below w.heap.size w (w.alloc (.cells #[.int .u8 kd, .string t, .int .i64 n, .int .u8 (d : Int)] 88)) := (Below.refl _ _).alloc (Nat.le_refl _) _
  have h1 := h.below hB
  have t1 : Touch b none w _ := Touch.ofBelow hB
  obtain ⟨c0, c1, c2, c3, fr, hlt⟩ := h1.cells
  have f1 := fr 1
  have f2 := fr 2
  have f3 := fr 3
  clear fr hk
  have H1 := Lib.hid h1
  have T1 := Lib.hid t1
  clear h1 t1 hB
  rw [hd] at c3
  clear hd
  go_enter Try.func57, Try.ntmps57
  go_wp2_with fail
  go_returns
  exact ⟨rfl, H1.out, T1.out⟩
set_option maxRecDepth 100000 in
set_option maxHeartbeats 4000000 in
theorem do_6b (b : Nat) (s : FS) (kd : Int) (t : ByteArray) (n : Int) (d : Nat) (w : World) (h : ModelAt w b s) (k0 : 0 ≤ kd) (k1 : kd < 256) (hk : kd % 7 = 6) (hd : s.down = true) (hn : n < 0) :
    Calls Try.prog 57 #[.pointer (some ⟨b, 0, none⟩), opV kd t n d] w fun e w' => e = .returned (.int .i64 2) ∧ ModelAt w' b s ∧ Touch b none w w' := by
  unfold opV
  have hm : kd.tmod 7 = 6 := by rw [Int.tmod_eq_emod_of_nonneg k0]; exact hk
  have hB : Below w.heap.size w (w.alloc (.cells #[.int .u8 kd, .string t, .int .i64 n, .int .u8 (d : Int)] 88)) := (Below.refl _ _).alloc (Nat.le_refl _) _
  have h1 := h.below hB
  have t1 : Touch b none w _ := Touch.ofBelow hB
  obtain ⟨c0, c1, c2, c3, fr, hlt⟩ := h1.cells
  have f1 := fr 1
  have f2 := fr 2
  have f3 := fr 3
  clear fr hk
  have H1 := Lib.hid h1
  have T1 := Lib.hid t1
  clear h1 t1 hB
  rw [hd] at c3
  clear hd
  go_enter Try.func57, Try.ntmps57
  go_wp2_with fail
  go_returns
  exact ⟨rfl, H1.out, T1.out⟩
set_option maxRecDepth 100000 in
set_option maxHeartbeats 4000000 in
theorem do_6c (b : Nat) (s : FS) (kd : Int) (t : ByteArray) (n : Nat) (d : Nat) (w : World) (h : ModelAt w b s) (k0 : 0 ≤ kd) (k1 : kd < 256) (hk : kd % 7 = 6) (hd : s.down = true) (hd8 : d < 256) (hn : (n : Int) < 9223372036854775808) (hsz : s.bytes.size ≤ 16777216) (hsyn : s.syn ≤ s.bytes.size) :
    Calls Try.prog 57 #[.pointer (some ⟨b, 0, none⟩), opV kd t (n : Int) d] w fun e w' => e = .returned (.int .i64 0) ∧
      ModelAt w' b { bytes := dmg (s.bytes.extract 0 (s.syn + min n (s.bytes.size - s.syn))) (min n (s.bytes.size - s.syn)) d, syn := s.syn + min n (s.bytes.size - s.syn), lim := -1, down := false } ∧ Touch b none w w' := by
  unfold opV
  have hm : kd.tmod 7 = 6 := by rw [Int.tmod_eq_emod_of_nonneg k0]; exact hk
  have hB : Below w.heap.size w (w.alloc (.cells #[.int .u8 kd, .string t, .int .i64 (n : Int), .int .u8 (d : Int)] 88)) := (Below.refl _ _).alloc (Nat.le_refl _) _
  have h1 := h.below hB
  have t1 : Touch b none w _ := Touch.ofBelow hB
  obtain ⟨c0, c1, c2, c3, fr, hlt⟩ := h1.cells
  have H1 := Lib.hid h1
  have T1 := Lib.hid t1
  have cr := mrestart_any b s n d _ h1 hd8 hn hsz hsyn
  rw [hd] at c3
  have n0 : ¬ (n : Int) < 0 := by omega
  clear fr hk h1 t1 hB hd hn hsz hsyn
  go_enter Try.func57, Try.ntmps57
  go_wp2_with fail
  refine cr.mono ?_
  rintro e w2 ⟨⟨r, rfl⟩, h2, t2⟩
  go_wp2_with fail
  go_returns
  exact ⟨rfl, h2, T1.out.trans t2⟩
end Go.Proofs.Ythfnpakddnnccaa
