/- four, word, number: contracts. -/
import Derived.Test.YthfnpakddnnccaaCrc
import Derived.Laws.IdiomStrings
namespace Go.Proofs.Ythfnpakddnnccaa
open Go.RowKit
set_option linter.unusedVariables false

def fourL (n : Nat) : List UInt8 := [UInt8.ofNat (n / 16777216), UInt8.ofNat (n / 65536), UInt8.ofNat (n / 256), UInt8.ofNat n]
def fourS (n : Nat) : ByteArray := ⟨(fourL n).toArray⟩

theorem u8_nat (n m : Nat) (h : m = n % 256) : ((UInt8.ofNat n).toNat : Int) = (m : Int) := by rw [UInt8.toNat_ofNat', h]

def fourC (n : Nat) : Array Value := #[.int .u8 ((n : Int) / 16777216), .int .u8 ((n : Int) / 65536 % 256), .int .u8 ((n : Int) / 256 % 256), .int .u8 ((n : Int) % 256)]
theorem four_conv (n : Nat) (w : World) (hn : n < 4294967296) :
    (convert 25 9 (.slice (some ⟨w.heap.size, 0, none⟩) 4 4)).run Try.prog (w.alloc (.cells (fourC n) 5)) = .ok (.string (fourS n)) (w.alloc (.cells (fourC n) 5)) := by
  refine run_convert_bytes_back (w.alloc (.cells (fourC n) 5)) 25 9 5 ⟨w.heap.size, 0, none⟩ 4 (fourL n) (by kernel_rfl) (by kernel_rfl) (by kernel_rfl) ?_
  intro j hj
  have ha : (⟨w.heap.size, 0, none⟩ : Addr).add j = ⟨w.heap.size, j, none⟩ := by unfold Addr.add; split <;> simp_all
  rw [ha, World.cell?_alloc_mark]
  have hj : j < 4 := hj
  match j, hj with
  | 0, _ => exact congrArg (fun x => some (Value.int .u8 x)) (by show (n : Int) / 16777216 = ((UInt8.ofNat (n / 16777216)).toNat : Int); rw [u8_nat _ (n / 16777216) (by omega)]; omega)
  | 1, _ => exact congrArg (fun x => some (Value.int .u8 x)) (by show (n : Int) / 65536 % 256 = ((UInt8.ofNat (n / 65536)).toNat : Int); rw [u8_nat _ (n / 65536 % 256) (by omega)]; omega)
  | 2, _ => exact congrArg (fun x => some (Value.int .u8 x)) (by show (n : Int) / 256 % 256 = ((UInt8.ofNat (n / 256)).toNat : Int); rw [u8_nat _ (n / 256 % 256) (by omega)]; omega)
  | 3, _ => exact congrArg (fun x => some (Value.int .u8 x)) (by show (n : Int) % 256 = ((UInt8.ofNat n).toNat : Int); rw [u8_nat _ (n % 256) (by omega)]; omega)

theorem four_any (n : Nat) (w : World) (hn : n < 4294967296) :
    Calls Try.prog 43 #[.int .u32 (n : Int)] w fun e w' => e = .returned (.string (fourS n)) ∧ Below w.heap.size w w' := by
  have kc := four_conv n w hn
  unfold fourC at kc
  go_enter Try.func43, Try.ntmps43
  go_wp2
  go_returns
  exact ⟨rfl, by go_grown⟩
theorem lawfour_any (n : Nat) (w : World) (hn : n < 4294967296) :
    Calls Try.prog 45 #[.int .i64 (n : Int)] w fun e w' => e = .returned (.string (fourS n)) ∧ Below w.heap.size w w' := by
  have kc := four_conv n w hn
  unfold fourC at kc
  go_enter Try.func45, Try.ntmps45
  go_wp2
  go_returns
  exact ⟨rfl, by go_grown⟩

/-- The number of the four bytes from a place on. -/
def wordAt (s : ByteArray) (i : Nat) : Nat := 16777216 * (s.data.getD i 0).toNat + 65536 * (s.data.getD (i + 1) 0).toNat + 256 * (s.data.getD (i + 2) 0).toNat + (s.data.getD (i + 3) 0).toNat
theorem byte_lt (s : ByteArray) (i : Nat) : (s.data.getD i 0).toNat < 256 := UInt8.toNat_lt _
theorem wordAt_lt (s : ByteArray) (i : Nat) : wordAt s i < 4294967296 := by
  have := byte_lt s i; have := byte_lt s (i + 1); have := byte_lt s (i + 2); have := byte_lt s (i + 3)
  unfold wordAt; omega
theorem str_index (s : ByteArray) (i : Nat) (h : i < s.size) : ∀ w : World, (Instr.index 9 (.string s) (.int .i64 (i : Int))).run Try.prog w = .ok (.int .u8 ((s.data.getD i 0).toNat : Int)) w := fun w => by
  rw [run_index_string w 9 s .i64 i (by kernel_rfl), dif_pos ⟨by omega, by omega⟩]
  have e : s[(i : Int).toNat]'(by omega) = s.data.getD i 0 := by
    have h2 : i < s.data.size := h
    simp only [Int.toNat_natCast]
    rw [Array.getD_eq_getD_getElem?, Array.getElem?_eq_getElem h2]
    rfl
  rw [e]

theorem wraps_u32 (n : Int) (h₀ : 0 ≤ n) (h₁ : n < 2 ^ 32) : IntKind.u32.wrap n = n := by rw [IntKind.wrap_u32]; omega
theorem wraps_i64 (n : Int) (h₀ : 0 ≤ n) (h₁ : n < 2 ^ 40) : IntKind.i64.wrap n = n := by rw [IntKind.wrap_i64]; omega
theorem join32 (x y : Int) (hx₀ : 0 ≤ x) (hx : x % 256 = 0) (hx₁ : x < 4294967296) (hy₀ : 0 ≤ y) (hy : y < 256) : bits .or .u32 x y = x + y := by
  exact bits_join .u32 32 (by decide) wraps_u32 8 x y hx₀ hx hx₁ hy₀ hy (by omega)
theorem word_bits (a b c d : Int) (a0 : 0 ≤ a) (a1 : a < 256) (b0 : 0 ≤ b) (b1 : b < 256) (c0 : 0 ≤ c) (c1 : c < 256) (d0 : 0 ≤ d) (d1 : d < 256) :
    bits .or .u32 (bits .or .u32 (bits .or .u32 (bits .or .u32 0 a * 256 % 4294967296) b * 256 % 4294967296) c * 256 % 4294967296) d =
      16777216 * a + 65536 * b + 256 * c + d := by
  rw [join32 0 a (by omega) (by omega) (by omega) a0 a1, join32 _ b (by omega) (by omega) (by omega) b0 b1, join32 _ c (by omega) (by omega) (by omega) c0 c1, join32 _ d (by omega) (by omega) (by omega) d0 d1]
  omega
theorem number_bits (a b c d : Int) (a0 : 0 ≤ a) (a1 : a < 256) (b0 : 0 ≤ b) (b1 : b < 256) (c0 : 0 ≤ c) (c1 : c < 256) (d0 : 0 ≤ d) (d1 : d < 256) :
    bits .or .i64 (bits .or .i64 (bits .or .i64 (a * 16777216) (b * 65536)) (c * 256)) d = 16777216 * a + 65536 * b + 256 * c + d := by
  rw [bits_join .i64 40 (by decide) wraps_i64 24 (a * 16777216) (b * 65536) (by omega) (by omega) (by omega) (by omega) (by omega) (by omega),
    bits_join .i64 40 (by decide) wraps_i64 16 _ (c * 256) (by omega) (by omega) (by omega) (by omega) (by omega) (by omega),
    bits_join .i64 40 (by decide) wraps_i64 8 _ d (by omega) (by omega) (by omega) (by omega) (by omega) (by omega)]
  omega

set_option maxHeartbeats 4000000 in
theorem word_any (s : ByteArray) (w : World) (h4 : 4 ≤ s.size) (hs : s.size ≤ maxLen) :
    Calls Try.prog 44 #[.string s] w fun e w' => e = .returned (.int .u32 (wordAt s 0 : Int)) ∧ w' = w := by
  unfold maxLen at hs
  have i0 : ∀ w : World, (Instr.index 9 (.string s) (.int .i64 0)).run Try.prog w = .ok (.int .u8 ((s.data.getD 0 0).toNat : Int)) w := str_index s 0 (by omega)
  have i1 : ∀ w : World, (Instr.index 9 (.string s) (.int .i64 1)).run Try.prog w = .ok (.int .u8 ((s.data.getD 1 0).toNat : Int)) w := str_index s 1 (by omega)
  have i2 : ∀ w : World, (Instr.index 9 (.string s) (.int .i64 2)).run Try.prog w = .ok (.int .u8 ((s.data.getD 2 0).toNat : Int)) w := str_index s 2 (by omega)
  have i3 : ∀ w : World, (Instr.index 9 (.string s) (.int .i64 3)).run Try.prog w = .ok (.int .u8 ((s.data.getD 3 0).toNat : Int)) w := str_index s 3 (by omega)
  have hw : (wordAt s 0 : Int) = 16777216 * ((s.data.getD 0 0).toNat : Int) + 65536 * ((s.data.getD 1 0).toNat : Int) + 256 * ((s.data.getD 2 0).toNat : Int) + ((s.data.getD 3 0).toNat : Int) := by unfold wordAt; simp only [Nat.zero_add]; omega
  have l0 := byte_lt s 0
  have l1 := byte_lt s 1
  have l2 := byte_lt s 2
  have l3 := byte_lt s 3
  generalize (s.data.getD 0 0).toNat = a at *
  generalize (s.data.getD 1 0).toNat = b at *
  generalize (s.data.getD 2 0).toNat = c at *
  generalize (s.data.getD 3 0).toNat = d at *
  have hW := Lib.hid hw
  clear hw
  go_enter Try.func44, Try.ntmps44
  go_wp2
  refine wp_loop_rounds 5 ?_
  iterate 5
    rw [rounds_succ]
    go_wp2
  go_returns
  refine ⟨?_, rfl⟩
  rw [hW.out, ← word_bits a b c d (by omega) (by omega) (by omega) (by omega) (by omega) (by omega) (by omega) (by omega)]
  rfl
set_option maxHeartbeats 4000000 in
theorem number_any (s : ByteArray) (w : World) (h4 : 4 ≤ s.size) (hs : s.size ≤ maxLen) :
    Calls Try.prog 46 #[.string s] w fun e w' => e = .returned (.int .i64 (wordAt s 0 : Int)) ∧ Below w.heap.size w w' := by
  unfold maxLen at hs
  have i0 : ∀ w : World, (Instr.index 9 (.string s) (.int .i64 0)).run Try.prog w = .ok (.int .u8 ((s.data.getD 0 0).toNat : Int)) w := str_index s 0 (by omega)
  have i1 : ∀ w : World, (Instr.index 9 (.string s) (.int .i64 1)).run Try.prog w = .ok (.int .u8 ((s.data.getD 1 0).toNat : Int)) w := str_index s 1 (by omega)
  have i2 : ∀ w : World, (Instr.index 9 (.string s) (.int .i64 2)).run Try.prog w = .ok (.int .u8 ((s.data.getD 2 0).toNat : Int)) w := str_index s 2 (by omega)
  have i3 : ∀ w : World, (Instr.index 9 (.string s) (.int .i64 3)).run Try.prog w = .ok (.int .u8 ((s.data.getD 3 0).toNat : Int)) w := str_index s 3 (by omega)
  have hw : (wordAt s 0 : Int) = 16777216 * ((s.data.getD 0 0).toNat : Int) + 65536 * ((s.data.getD 1 0).toNat : Int) + 256 * ((s.data.getD 2 0).toNat : Int) + ((s.data.getD 3 0).toNat : Int) := by unfold wordAt; simp only [Nat.zero_add]; omega
  have l0 := byte_lt s 0
  have l1 := byte_lt s 1
  have l2 := byte_lt s 2
  have l3 := byte_lt s 3
  generalize (s.data.getD 0 0).toNat = a at *
  generalize (s.data.getD 1 0).toNat = b at *
  generalize (s.data.getD 2 0).toNat = c at *
  generalize (s.data.getD 3 0).toNat = d at *
  have hW := Lib.hid hw
  clear hw
  have w0 : IntKind.i64.wrap ((a : Int) * 16777216) = (a : Int) * 16777216 := IntWalk.i64_in _ (by omega)
  have w1 : IntKind.i64.wrap ((b : Int) * 65536) = (b : Int) * 65536 := IntWalk.i64_in _ (by omega)
  have w2 : IntKind.i64.wrap ((c : Int) * 256) = (c : Int) * 256 := IntWalk.i64_in _ (by omega)
  go_enter Try.func46, Try.ntmps46
  go_wp2
  go_quiet (fail)
  go_wp2
  go_returns
  refine ⟨?_, below_dn (by go_grown) _⟩
  rw [hW.out, ← number_bits a b c d (by omega) (by omega) (by omega) (by omega) (by omega) (by omega) (by omega) (by omega)]
  rfl
end Go.Proofs.Ythfnpakddnnccaa
