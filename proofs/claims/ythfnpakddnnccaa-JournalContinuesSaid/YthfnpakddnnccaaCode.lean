/- Encode, Decode of package journal and of the law: contracts over plain functions. -/
import Derived.Test.YthfnpakddnnccaaFour
import Derived.Laws.Concat
import Derived.Laws.Strings3
import Derived.Laws.DeepStrings4
namespace Go.Proofs.Ythfnpakddnnccaa
open Go.RowKit
set_option linter.unusedVariables false

theorem str_from (s : ByteArray) (a : Nat) (h : a ≤ s.size) : ∀ w : World, (Instr.slice 9 (.string s) (some (.int .i64 (a : Int))) none none).run Try.prog w = .ok (.string (s.extract a s.size)) w := fun w => by
  rw [run_slice_string_from_if w 9 s .i64 a (by kernel_rfl), if_pos ⟨by omega, by omega⟩, Int.toNat_natCast]
theorem str_to (s : ByteArray) (a : Nat) (h : a ≤ s.size) : ∀ w : World, (Instr.slice 9 (.string s) none (some (.int .i64 (a : Int))) none).run Try.prog w = .ok (.string (s.extract 0 a)) w := fun w => by
  rw [run_slice_string_to_if w 9 s .i64 a (by kernel_rfl), if_pos ⟨by omega, by omega⟩, Int.toNat_natCast]
theorem str_cut (s : ByteArray) (a b : Nat) (hab : a ≤ b) (h : b ≤ s.size) : ∀ w : World, (Instr.slice 9 (.string s) (some (.int .i64 (a : Int))) (some (.int .i64 (b : Int))) none).run Try.prog w = .ok (.string (s.extract a b)) w := fun w => by
  rw [run_slice_string w 9 s .i64 .i64 a b (by kernel_rfl) (by omega) (by omega) (by omega), Int.toNat_natCast, Int.toNat_natCast]
theorem str_add (a b : ByteArray) (h : a.size + b.size ≤ 9223372036854775807) : ∀ w : World, (Op.stringOp .add a b).run Try.prog w = .ok (.string (a ++ b)) w := fun w => run_string_add_sum w a b h

theorem size_four (n : Nat) : (fourS n).size = 4 := rfl
def headS (k n : Nat) : ByteArray := fourS k ++ fourS n
theorem size_head (k n : Nat) : (headS k n).size = 8 := by unfold headS; rw [ByteArray.size_append, size_four, size_four]
def encS (n : Nat) (r : ByteArray) : ByteArray := headS r.size n ++ fourS (crc (headS r.size n ++ r)) ++ r
theorem size_enc (n : Nat) (r : ByteArray) : (encS n r).size = 12 + r.size := by unfold encS; rw [ByteArray.size_append, ByteArray.size_append, size_head, size_four]

theorem extract_getD (s : ByteArray) (a i : Nat) : (s.extract a s.size).data.getD i 0 = s.data.getD (a + i) 0 := by
  rw [ByteArray.data_extract, Array.getD_eq_getD_getElem?, Array.getD_eq_getD_getElem?, Array.getElem?_extract]
  by_cases h : i < s.data.size - a
  · have h2 : i < min s.size s.data.size - a := by show i < min s.data.size s.data.size - a; omega
    rw [if_pos h2]
  · have h2 : ¬ i < min s.size s.data.size - a := by show ¬ i < min s.data.size s.data.size - a; omega
    rw [if_neg h2, Array.getElem?_eq_none (by omega)]
theorem wordAt_extract (s : ByteArray) (a : Nat) : wordAt (s.extract a s.size) 0 = wordAt s a := by
  unfold wordAt
  rw [extract_getD, extract_getD, extract_getD, extract_getD]
  simp only [Nat.zero_add, Nat.add_zero]
theorem size_from (s : ByteArray) (a : Nat) : (s.extract a s.size).size = s.size - a := by rw [ByteArray.size_extract, Nat.min_self]
theorem word_at (s : ByteArray) (a : Nat) (w : World) (h4 : a + 4 ≤ s.size) (hs : s.size ≤ maxLen) :
    Calls Try.prog 44 #[.string (s.extract a s.size)] w fun e w' => e = .returned (.int .u32 (wordAt s a : Int)) ∧ w' = w := by
  have := word_any (s.extract a s.size) w (by rw [size_from]; omega) (by rw [size_from]; omega)
  rw [wordAt_extract] at this
  exact this
theorem number_at (s : ByteArray) (a : Nat) (w : World) (h4 : a + 4 ≤ s.size) (hs : s.size ≤ maxLen) :
    Calls Try.prog 46 #[.string (s.extract a s.size)] w fun e w' => e = .returned (.int .i64 (wordAt s a : Int)) ∧ Below w.heap.size w w' := by
  have := number_any (s.extract a s.size) w (by rw [size_from]; omega) (by rw [size_from]; omega)
  rw [wordAt_extract] at this
  exact this

/-- Decode: the record, how many bytes, the error. -/
def none' : ByteArray := ⟨#[]⟩
def dec (s : ByteArray) (n : Int) : ByteArray × Nat × Int :=
  if s.size < 12 then (none', 0, 35)
  else if 65536 < wordAt s 0 then (none', 0, 5)
  else if (wordAt s 4 : Int) ≠ n then (none', 0, 38)
  else if s.size < 12 + wordAt s 0 then (none', 0, 35)
  else if crc (s.extract 0 8 ++ s.extract 12 (12 + wordAt s 0)) ≠ wordAt s 8 then (none', 0, 34)
  else (s.extract 12 (12 + wordAt s 0), 12 + wordAt s 0, 0)
def decV (d : ByteArray × Nat × Int) : Value := .tuple #[.string d.1, .int .i64 (d.2.1 : Int), .int .i64 d.2.2]

theorem results_tmp3 {fn : Func} {t u v : Tmp} (h : fn.results = #[.tmp t, .tmp u, .tmp v]) (tmps : Array Value) (P : Program) (w : World) :
    (results fn tmps).run P w = .ok (.tuple #[tmps.getD t undef, tmps.getD u undef, tmps.getD v undef]) w := by simp [results, h]


theorem str_from4 (s : ByteArray) (h : 4 ≤ s.size) : ∀ w : World, (Instr.slice 9 (.string s) (some (.int .i64 4)) none none).run Try.prog w = .ok (.string (s.extract 4 s.size)) w := str_from s 4 h
theorem str_from8 (s : ByteArray) (h : 8 ≤ s.size) : ∀ w : World, (Instr.slice 9 (.string s) (some (.int .i64 8)) none none).run Try.prog w = .ok (.string (s.extract 8 s.size)) w := str_from s 8 h
theorem str_to8 (s : ByteArray) (h : 8 ≤ s.size) : ∀ w : World, (Instr.slice 9 (.string s) none (some (.int .i64 8)) none).run Try.prog w = .ok (.string (s.extract 0 8)) w := str_to s 8 h
theorem str_cut12 (s : ByteArray) (L : Nat) (h : 12 + L ≤ s.size) : ∀ w : World, (Instr.slice 9 (.string s) (some (.int .i64 12)) (some (.int .i64 (12 + (L : Int)))) none).run Try.prog w = .ok (.string (s.extract 12 (12 + L))) w := fun w => by
  have := str_cut s 12 (12 + L) (by omega) h w
  rw [show ((12 + L : Nat) : Int) = 12 + (L : Int) from by omega] at this
  exact this
theorem record_size (s : ByteArray) (L : Nat) (h : 12 + L ≤ s.size) : (s.extract 12 (12 + L)).size = L := by rw [ByteArray.size_extract]; omega
theorem prefix_size (s : ByteArray) (h : 8 ≤ s.size) : (s.extract 0 8).size = 8 := by rw [ByteArray.size_extract]; omega
set_option maxHeartbeats 1000000 in
theorem decode_1 (s : ByteArray) (n : Int) (w : World) (hs : s.size ≤ maxLen) (h1 : s.size < 12) :
    Calls Try.prog 18 #[.string s, .int .i64 n] w fun e w' => e = .returned (decV (none', 0, 35)) ∧ Below w.heap.size w w' := by
  have hs' := hs
  unfold maxLen at hs'
  go_enter Try.func18, Try.ntmps18
  go_wp2
  refine bodyPost_ret (results_tmp3 rfl _ _ _) rfl ?_
  exact ⟨rfl, by go_grown⟩
set_option maxHeartbeats 1000000 in
theorem decode_2 (s : ByteArray) (n : Int) (w : World) (hs : s.size ≤ maxLen) (h1 : ¬ s.size < 12) (h2 : 65536 < wordAt s 0) :
    Calls Try.prog 18 #[.string s, .int .i64 n] w fun e w' => e = .returned (decV (none', 0, 5)) ∧ Below w.heap.size w w' := by
  have hs' := hs
  unfold maxLen at hs'
  have hw0 := wordAt_lt s 0
  have hw4 := wordAt_lt s 4
  go_enter Try.func18, Try.ntmps18
  go_wp2_with fail
  refine (word_any s _ (by omega) hs).mono ?_
  rintro e w1 ⟨rfl, rfl⟩
  generalize wordAt s 0 = L at *
  go_wp2
  refine bodyPost_ret (results_tmp3 rfl _ _ _) rfl ?_
  exact ⟨rfl, by go_grown⟩
set_option maxHeartbeats 1000000 in
theorem decode_3 (s : ByteArray) (n : Int) (w : World) (hs : s.size ≤ maxLen) (h1 : ¬ s.size < 12) (h2 : ¬ 65536 < wordAt s 0) (h3 : (wordAt s 4 : Int) ≠ n) :
    Calls Try.prog 18 #[.string s, .int .i64 n] w fun e w' => e = .returned (decV (none', 0, 38)) ∧ Below w.heap.size w w' := by
  have hs' := hs
  unfold maxLen at hs'
  have hw0 := wordAt_lt s 0
  have hw4 := wordAt_lt s 4
  have s4 := str_from4 s (by omega)
  go_enter Try.func18, Try.ntmps18
  go_wp2_with fail
  refine (word_any s _ (by omega) hs).mono ?_
  rintro e w1 ⟨rfl, rfl⟩
  generalize wordAt s 0 = L at *
  go_wp2_with fail
  refine (word_at s 4 _ (by omega) hs).mono ?_
  rintro e w2 ⟨rfl, rfl⟩
  have h3' : ((wordAt s 4 : Int) == n) = false := by simpa using h3
  generalize wordAt s 4 = M at *
  go_wp2
  refine bodyPost_ret (results_tmp3 rfl _ _ _) rfl ?_
  exact ⟨rfl, by go_grown⟩
set_option maxHeartbeats 1000000 in
theorem lawdec_1 (s : ByteArray) (n : Int) (w : World) (hs : s.size ≤ maxLen) (h1 : s.size < 12) :
    Calls Try.prog 20 #[.string s, .int .i64 n] w fun e w' => e = .returned (decV (none', 0, 35)) ∧ Below w.heap.size w w' := by
  have hs' := hs
  unfold maxLen at hs'
  go_enter Try.func20, Try.ntmps20
  go_wp2
  refine bodyPost_ret (results_tmp3 rfl _ _ _) rfl ?_
  exact ⟨rfl, by go_grown⟩
set_option maxHeartbeats 1000000 in
theorem lawdec_2 (s : ByteArray) (n : Int) (w : World) (hs : s.size ≤ maxLen) (h1 : ¬ s.size < 12) (h2 : 65536 < wordAt s 0) :
    Calls Try.prog 20 #[.string s, .int .i64 n] w fun e w' => e = .returned (decV (none', 0, 5)) ∧ Below w.heap.size w w' := by
  have hs' := hs
  unfold maxLen at hs'
  have hw0 := wordAt_lt s 0
  have hw4 := wordAt_lt s 4
  go_enter Try.func20, Try.ntmps20
  go_wp2_with fail
  refine (number_any s _ (by omega) hs).mono ?_
  rintro e w1 ⟨rfl, B1⟩
  have z1 := B1.size
  generalize wordAt s 0 = L at *
  go_wp2
  refine bodyPost_ret (results_tmp3 rfl _ _ _) rfl ?_
  exact ⟨rfl, B1⟩
set_option maxHeartbeats 1000000 in
theorem lawdec_3 (s : ByteArray) (n : Int) (w : World) (hs : s.size ≤ maxLen) (h1 : ¬ s.size < 12) (h2 : ¬ 65536 < wordAt s 0) (h3 : (wordAt s 4 : Int) ≠ n) :
    Calls Try.prog 20 #[.string s, .int .i64 n] w fun e w' => e = .returned (decV (none', 0, 38)) ∧ Below w.heap.size w w' := by
  have hs' := hs
  unfold maxLen at hs'
  have hw0 := wordAt_lt s 0
  have hw4 := wordAt_lt s 4
  have s4 := str_from4 s (by omega)
  go_enter Try.func20, Try.ntmps20
  go_wp2_with fail
  refine (number_any s _ (by omega) hs).mono ?_
  rintro e w1 ⟨rfl, B1⟩
  have z1 := B1.size
  generalize wordAt s 0 = L at *
  go_wp2_with fail
  refine (number_at s 4 _ (by omega) hs).mono ?_
  rintro e w2 ⟨rfl, B2⟩
  have z2 := B2.size
  have h3' : ((wordAt s 4 : Int) == n) = false := by simpa using h3
  generalize wordAt s 4 = M at *
  go_wp2
  refine bodyPost_ret (results_tmp3 rfl _ _ _) rfl ?_
  exact ⟨rfl, B1.trans (B2.mono z1)⟩

theorem checksum_b (s : ByteArray) (w : World) (hs : s.size ≤ maxLen) :
    Calls Try.prog 15 #[.string s] w fun e w' => e = .returned (.int .u32 (crc s : Int)) ∧ Below w.heap.size w w' :=
  (checksum_any s w hs).mono fun _ _ h => ⟨h.1, h.2 ▸ Below.refl _ _⟩
theorem lawsum_b (s : ByteArray) (w : World) (hs : s.size ≤ maxLen) :
    Calls Try.prog 16 #[.string s] w fun e w' => e = .returned (.int .u32 (crc s : Int)) ∧ Below w.heap.size w w' :=
  (lawsum_any s w hs).mono fun _ _ h => ⟨h.1, h.2 ▸ Below.refl _ _⟩
theorem word_b (s : ByteArray) (a : Nat) (w : World) (h4 : a + 4 ≤ s.size) (hs : s.size ≤ maxLen) :
    Calls Try.prog 44 #[.string (s.extract a s.size)] w fun e w' => e = .returned (.int .u32 (wordAt s a : Int)) ∧ Below w.heap.size w w' :=
  (word_at s a w h4 hs).mono fun _ _ h => ⟨h.1, h.2 ▸ Below.refl _ _⟩
theorem word_b' (s : ByteArray) (w : World) (h4 : 4 ≤ s.size) (hs : s.size ≤ maxLen) :
    Calls Try.prog 44 #[.string s] w fun e w' => e = .returned (.int .u32 (wordAt s 0 : Int)) ∧ Below w.heap.size w w' :=
  (word_any s w h4 hs).mono fun _ _ h => ⟨h.1, h.2 ▸ Below.refl _ _⟩
set_option maxHeartbeats 1000000 in
theorem decode_4 (s : ByteArray) (n : Int) (w : World) (hs : s.size ≤ maxLen) (h1 : ¬ s.size < 12) (h2 : ¬ 65536 < wordAt s 0) (h3 : ¬ (wordAt s 4 : Int) ≠ n) (h4 : s.size < 12 + wordAt s 0) :
    Calls Try.prog 18 #[.string s, .int .i64 n] w fun e w' => e = .returned (decV (none', 0, 35)) ∧ Below w.heap.size w w' := by
  have hs' := hs
  unfold maxLen at hs'
  have hw0 := wordAt_lt s 0
  have hw4 := wordAt_lt s 4
  have hw8 := wordAt_lt s 8
  have s4 := str_from4 s (by omega)
  go_enter Try.func18, Try.ntmps18
  go_wp2_with fail
  refine (word_b' s _ (by omega) hs).mono ?_
  rintro e w1 ⟨rfl, B1⟩
  have z1 := B1.size
  generalize wordAt s 0 = L at *
  go_wp2_with fail
  refine (word_b s 4 _ (by omega) hs).mono ?_
  rintro e w2 ⟨rfl, B2⟩
  have z2 := B2.size
  have h3' : ((wordAt s 4 : Int) == n) = true := by simpa using h3
  generalize wordAt s 4 = M at *
  go_wp2
  refine bodyPost_ret (results_tmp3 rfl _ _ _) rfl ?_
  exact ⟨rfl, B1.trans (B2.mono z1)⟩
set_option maxHeartbeats 1000000 in
theorem decode_5 (s : ByteArray) (n : Int) (w : World) (hs : s.size ≤ maxLen) (h1 : ¬ s.size < 12) (h2 : ¬ 65536 < wordAt s 0) (h3 : ¬ (wordAt s 4 : Int) ≠ n) (h4 : ¬ s.size < 12 + wordAt s 0) (h5 : crc (s.extract 0 8 ++ s.extract 12 (12 + wordAt s 0)) ≠ wordAt s 8) :
    Calls Try.prog 18 #[.string s, .int .i64 n] w fun e w' => e = .returned (decV (none', 0, 34)) ∧ Below w.heap.size w w' := by
  have hs' := hs
  unfold maxLen at hs'
  have hw0 := wordAt_lt s 0
  have hw4 := wordAt_lt s 4
  have hw8 := wordAt_lt s 8
  have s4 := str_from4 s (by omega)
  have s8 := str_from8 s (by omega)
  have t8 := str_to8 s (by omega)
  have tc := str_cut12 s (wordAt s 0) (by omega)
  have hr := record_size s (wordAt s 0) (by omega)
  have hp := prefix_size s (by omega)
  have h20 : 8 + 4 ≤ s.size := by omega
  have hcs : (s.extract 0 8 ++ s.extract 12 (12 + wordAt s 0)).size ≤ maxLen := by rw [ByteArray.size_append, hr, hp]; unfold maxLen; omega
  have ad := str_add (s.extract 0 8) (s.extract 12 (12 + wordAt s 0)) (by omega)
  have hq : ((crc (s.extract 0 8 ++ s.extract 12 (12 + wordAt s 0)) : Int) == (wordAt s 8 : Int)) = false := by rw [beq_eq_false_iff_ne]; intro e; exact h5 (by omega)
  have w12 : IntKind.i64.wrap (12 + (wordAt s 0 : Int)) = 12 + (wordAt s 0 : Int) := IntWalk.i64_in _ (by omega)
  have wu : ((wordAt s 8 : Int) % 4294967296) = (wordAt s 8 : Int) := by omega
  go_enter Try.func18, Try.ntmps18
  go_wp2_with fail
  refine (word_b' s _ (by omega) hs).mono ?_
  rintro e w1 ⟨rfl, B1⟩
  have z1 := B1.size
  generalize wordAt s 0 = L at *
  go_wp2_with fail
  refine (word_b s 4 _ (by omega) hs).mono ?_
  rintro e w2 ⟨rfl, B2⟩
  have z2 := B2.size
  have h3' : ((wordAt s 4 : Int) == n) = true := by simpa using h3
  generalize wordAt s 4 = M at *
  generalize s.extract 12 (12 + L) = R at *
  generalize s.extract 0 8 ++ R = X at *
  go_wp2
  refine wp_region_later (by kernel_rfl) (by kernel_rfl) ?_
  repeat (go_big_quiet_step (first | (go_at_call 15; exact later_calls (Nat.le_refl _) (checksum_b _ _ hcs)) | (go_at_call 44; exact later_calls (Nat.le_refl _) (word_b s 8 _ h20 hs))))
  refine wpQuiet_nil ?_
  intro w3 B3
  go_wp2
  refine bodyPost_ret (results_tmp3 rfl _ _ _) rfl ?_
  exact ⟨rfl, (B1.trans (B2.mono z1)).trans (B3.mono (Nat.le_trans z1 z2))⟩
set_option maxHeartbeats 1000000 in
theorem decode_6 (s : ByteArray) (n : Int) (w : World) (hs : s.size ≤ maxLen) (h1 : ¬ s.size < 12) (h2 : ¬ 65536 < wordAt s 0) (h3 : ¬ (wordAt s 4 : Int) ≠ n) (h4 : ¬ s.size < 12 + wordAt s 0) (h5 : ¬ crc (s.extract 0 8 ++ s.extract 12 (12 + wordAt s 0)) ≠ wordAt s 8) :
    Calls Try.prog 18 #[.string s, .int .i64 n] w fun e w' => e = .returned (decV (s.extract 12 (12 + wordAt s 0), 12 + wordAt s 0, 0)) ∧ Below w.heap.size w w' := by
  have hs' := hs
  unfold maxLen at hs'
  have hw0 := wordAt_lt s 0
  have hw4 := wordAt_lt s 4
  have hw8 := wordAt_lt s 8
  have s4 := str_from4 s (by omega)
  have s8 := str_from8 s (by omega)
  have t8 := str_to8 s (by omega)
  have tc := str_cut12 s (wordAt s 0) (by omega)
  have hr := record_size s (wordAt s 0) (by omega)
  have hp := prefix_size s (by omega)
  have h20 : 8 + 4 ≤ s.size := by omega
  have hcs : (s.extract 0 8 ++ s.extract 12 (12 + wordAt s 0)).size ≤ maxLen := by rw [ByteArray.size_append, hr, hp]; unfold maxLen; omega
  have ad := str_add (s.extract 0 8) (s.extract 12 (12 + wordAt s 0)) (by omega)
  have hq : ((crc (s.extract 0 8 ++ s.extract 12 (12 + wordAt s 0)) : Int) == (wordAt s 8 : Int)) = true := by rw [beq_iff_eq]; exact congrArg _ (by omega)
  have w12 : IntKind.i64.wrap (12 + (wordAt s 0 : Int)) = 12 + (wordAt s 0 : Int) := IntWalk.i64_in _ (by omega)
  have wu : ((wordAt s 8 : Int) % 4294967296) = (wordAt s 8 : Int) := by omega
  go_enter Try.func18, Try.ntmps18
  go_wp2_with fail
  refine (word_b' s _ (by omega) hs).mono ?_
  rintro e w1 ⟨rfl, B1⟩
  have z1 := B1.size
  generalize hL : wordAt s 0 = L at *
  have HL := Lib.hid hL
  clear hL
  go_wp2_with fail
  refine (word_b s 4 _ (by omega) hs).mono ?_
  rintro e w2 ⟨rfl, B2⟩
  have z2 := B2.size
  have h3' : ((wordAt s 4 : Int) == n) = true := by simpa using h3
  generalize wordAt s 4 = M at *
  generalize hR : s.extract 12 (12 + L) = R at *
  have HR := Lib.hid hR
  clear hR
  generalize s.extract 0 8 ++ R = X at *
  go_wp2
  refine wp_region_later (by kernel_rfl) (by kernel_rfl) ?_
  repeat (go_big_quiet_step (first | (go_at_call 15; exact later_calls (Nat.le_refl _) (checksum_b _ _ hcs)) | (go_at_call 44; exact later_calls (Nat.le_refl _) (word_b s 8 _ h20 hs))))
  refine wpQuiet_nil ?_
  intro w3 B3
  go_wp2
  refine bodyPost_ret (results_tmp3 rfl _ _ _) rfl ?_
  refine ⟨?_, (B1.trans (B2.mono z1)).trans (B3.mono (Nat.le_trans z1 z2))⟩
  show Ending.returned (Value.tuple #[.string R, .int .i64 (12 + (L : Int)), .int .i64 0]) = _
  rw [show (12 + (L : Int)) = ((12 + L : Nat) : Int) from by omega]
  obtain rfl := HR.out
  obtain rfl := HL.out
  rfl
theorem decode_any (s : ByteArray) (n : Int) (w : World) (hs : s.size ≤ maxLen) :
    Calls Try.prog 18 #[.string s, .int .i64 n] w fun e w' => e = .returned (decV (dec s n)) ∧ Below w.heap.size w w' := by
  unfold dec
  by_cases h1 : s.size < 12
  · rw [if_pos h1]; exact decode_1 s n w hs h1
  rw [if_neg h1]
  by_cases h2 : 65536 < wordAt s 0
  · rw [if_pos h2]; exact decode_2 s n w hs h1 h2
  rw [if_neg h2]
  by_cases h3 : (wordAt s 4 : Int) ≠ n
  · rw [if_pos h3]; exact decode_3 s n w hs h1 h2 h3
  rw [if_neg h3]
  by_cases h4 : s.size < 12 + wordAt s 0
  · rw [if_pos h4]; exact decode_4 s n w hs h1 h2 h3 h4
  rw [if_neg h4]
  by_cases h5 : crc (s.extract 0 8 ++ s.extract 12 (12 + wordAt s 0)) ≠ wordAt s 8
  · rw [if_pos h5]; exact decode_5 s n w hs h1 h2 h3 h4 h5
  rw [if_neg h5]; exact decode_6 s n w hs h1 h2 h3 h4 h5
set_option maxHeartbeats 1000000 in
theorem lawdec_4 (s : ByteArray) (n : Int) (w : World) (hs : s.size ≤ maxLen) (h1 : ¬ s.size < 12) (h2 : ¬ 65536 < wordAt s 0) (h3 : ¬ (wordAt s 4 : Int) ≠ n) (h4 : s.size < 12 + wordAt s 0) :
    Calls Try.prog 20 #[.string s, .int .i64 n] w fun e w' => e = .returned (decV (none', 0, 35)) ∧ Below w.heap.size w w' := by
  have hs' := hs
  unfold maxLen at hs'
  have hw0 := wordAt_lt s 0
  have hw4 := wordAt_lt s 4
  have hw8 := wordAt_lt s 8
  have s4 := str_from4 s (by omega)
  go_enter Try.func20, Try.ntmps20
  go_wp2_with fail
  refine (number_any s _ (by omega) hs).mono ?_
  rintro e w1 ⟨rfl, B1⟩
  have z1 := B1.size
  generalize wordAt s 0 = L at *
  go_wp2_with fail
  refine (number_at s 4 _ (by omega) hs).mono ?_
  rintro e w2 ⟨rfl, B2⟩
  have z2 := B2.size
  have h3' : ((wordAt s 4 : Int) == n) = true := by simpa using h3
  generalize wordAt s 4 = M at *
  go_wp2
  refine bodyPost_ret (results_tmp3 rfl _ _ _) rfl ?_
  exact ⟨rfl, B1.trans (B2.mono z1)⟩
set_option maxHeartbeats 1000000 in
theorem lawdec_5 (s : ByteArray) (n : Int) (w : World) (hs : s.size ≤ maxLen) (h1 : ¬ s.size < 12) (h2 : ¬ 65536 < wordAt s 0) (h3 : ¬ (wordAt s 4 : Int) ≠ n) (h4 : ¬ s.size < 12 + wordAt s 0) (h5 : crc (s.extract 0 8 ++ s.extract 12 (12 + wordAt s 0)) ≠ wordAt s 8) :
    Calls Try.prog 20 #[.string s, .int .i64 n] w fun e w' => e = .returned (decV (none', 0, 34)) ∧ Below w.heap.size w w' := by
  have hs' := hs
  unfold maxLen at hs'
  have hw0 := wordAt_lt s 0
  have hw4 := wordAt_lt s 4
  have hw8 := wordAt_lt s 8
  have s4 := str_from4 s (by omega)
  have s8 := str_from8 s (by omega)
  have t8 := str_to8 s (by omega)
  have tc := str_cut12 s (wordAt s 0) (by omega)
  have hr := record_size s (wordAt s 0) (by omega)
  have hp := prefix_size s (by omega)
  have h20 : 8 + 4 ≤ s.size := by omega
  have hcs : (s.extract 0 8 ++ s.extract 12 (12 + wordAt s 0)).size ≤ maxLen := by rw [ByteArray.size_append, hr, hp]; unfold maxLen; omega
  have ad := str_add (s.extract 0 8) (s.extract 12 (12 + wordAt s 0)) (by omega)
  have hq : ((wordAt s 8 : Int) == (crc (s.extract 0 8 ++ s.extract 12 (12 + wordAt s 0)) : Int)) = false := by rw [beq_eq_false_iff_ne]; intro e; exact h5 (by omega)
  have w12 : IntKind.i64.wrap (12 + (wordAt s 0 : Int)) = 12 + (wordAt s 0 : Int) := IntWalk.i64_in _ (by omega)
  have wu : ((wordAt s 8 : Int) % 4294967296) = (wordAt s 8 : Int) := by omega
  go_enter Try.func20, Try.ntmps20
  go_wp2_with fail
  refine (number_any s _ (by omega) hs).mono ?_
  rintro e w1 ⟨rfl, B1⟩
  have z1 := B1.size
  generalize wordAt s 0 = L at *
  go_wp2_with fail
  refine (number_at s 4 _ (by omega) hs).mono ?_
  rintro e w2 ⟨rfl, B2⟩
  have z2 := B2.size
  have h3' : ((wordAt s 4 : Int) == n) = true := by simpa using h3
  generalize wordAt s 4 = M at *
  generalize s.extract 12 (12 + L) = R at *
  generalize s.extract 0 8 ++ R = X at *
  go_wp2
  refine wp_region_later (by kernel_rfl) (by kernel_rfl) ?_
  repeat (go_big_quiet_step (first | (go_at_call 16; exact later_calls (Nat.le_refl _) (lawsum_b _ _ hcs)) | (go_at_call 46; exact later_calls (Nat.le_refl _) (number_at s 8 _ h20 hs))))
  refine wpQuiet_nil ?_
  intro w3 B3
  go_wp2
  refine bodyPost_ret (results_tmp3 rfl _ _ _) rfl ?_
  exact ⟨rfl, (B1.trans (B2.mono z1)).trans (B3.mono (Nat.le_trans z1 z2))⟩
set_option maxHeartbeats 1000000 in
theorem lawdec_6 (s : ByteArray) (n : Int) (w : World) (hs : s.size ≤ maxLen) (h1 : ¬ s.size < 12) (h2 : ¬ 65536 < wordAt s 0) (h3 : ¬ (wordAt s 4 : Int) ≠ n) (h4 : ¬ s.size < 12 + wordAt s 0) (h5 : ¬ crc (s.extract 0 8 ++ s.extract 12 (12 + wordAt s 0)) ≠ wordAt s 8) :
    Calls Try.prog 20 #[.string s, .int .i64 n] w fun e w' => e = .returned (decV (s.extract 12 (12 + wordAt s 0), 12 + wordAt s 0, 0)) ∧ Below w.heap.size w w' := by
  have hs' := hs
  unfold maxLen at hs'
  have hw0 := wordAt_lt s 0
  have hw4 := wordAt_lt s 4
  have hw8 := wordAt_lt s 8
  have s4 := str_from4 s (by omega)
  have s8 := str_from8 s (by omega)
  have t8 := str_to8 s (by omega)
  have tc := str_cut12 s (wordAt s 0) (by omega)
  have hr := record_size s (wordAt s 0) (by omega)
  have hp := prefix_size s (by omega)
  have h20 : 8 + 4 ≤ s.size := by omega
  have hcs : (s.extract 0 8 ++ s.extract 12 (12 + wordAt s 0)).size ≤ maxLen := by rw [ByteArray.size_append, hr, hp]; unfold maxLen; omega
  have ad := str_add (s.extract 0 8) (s.extract 12 (12 + wordAt s 0)) (by omega)
  have hq : ((wordAt s 8 : Int) == (crc (s.extract 0 8 ++ s.extract 12 (12 + wordAt s 0)) : Int)) = true := by rw [beq_iff_eq]; exact congrArg _ (by omega)
  have w12 : IntKind.i64.wrap (12 + (wordAt s 0 : Int)) = 12 + (wordAt s 0 : Int) := IntWalk.i64_in _ (by omega)
  have wu : ((wordAt s 8 : Int) % 4294967296) = (wordAt s 8 : Int) := by omega
  go_enter Try.func20, Try.ntmps20
  go_wp2_with fail
  refine (number_any s _ (by omega) hs).mono ?_
  rintro e w1 ⟨rfl, B1⟩
  have z1 := B1.size
  generalize hL : wordAt s 0 = L at *
  have HL := Lib.hid hL
  clear hL
  go_wp2_with fail
  refine (number_at s 4 _ (by omega) hs).mono ?_
  rintro e w2 ⟨rfl, B2⟩
  have z2 := B2.size
  have h3' : ((wordAt s 4 : Int) == n) = true := by simpa using h3
  generalize wordAt s 4 = M at *
  generalize hR : s.extract 12 (12 + L) = R at *
  have HR := Lib.hid hR
  clear hR
  generalize s.extract 0 8 ++ R = X at *
  go_wp2
  refine wp_region_later (by kernel_rfl) (by kernel_rfl) ?_
  repeat (go_big_quiet_step (first | (go_at_call 16; exact later_calls (Nat.le_refl _) (lawsum_b _ _ hcs)) | (go_at_call 46; exact later_calls (Nat.le_refl _) (number_at s 8 _ h20 hs))))
  refine wpQuiet_nil ?_
  intro w3 B3
  go_wp2
  refine bodyPost_ret (results_tmp3 rfl _ _ _) rfl ?_
  refine ⟨?_, (B1.trans (B2.mono z1)).trans (B3.mono (Nat.le_trans z1 z2))⟩
  show Ending.returned (Value.tuple #[.string R, .int .i64 (12 + (L : Int)), .int .i64 0]) = _
  rw [show (12 + (L : Int)) = ((12 + L : Nat) : Int) from by omega]
  obtain rfl := HR.out
  obtain rfl := HL.out
  rfl
theorem lawdec_any (s : ByteArray) (n : Int) (w : World) (hs : s.size ≤ maxLen) :
    Calls Try.prog 20 #[.string s, .int .i64 n] w fun e w' => e = .returned (decV (dec s n)) ∧ Below w.heap.size w w' := by
  unfold dec
  by_cases h1 : s.size < 12
  · rw [if_pos h1]; exact lawdec_1 s n w hs h1
  rw [if_neg h1]
  by_cases h2 : 65536 < wordAt s 0
  · rw [if_pos h2]; exact lawdec_2 s n w hs h1 h2
  rw [if_neg h2]
  by_cases h3 : (wordAt s 4 : Int) ≠ n
  · rw [if_pos h3]; exact lawdec_3 s n w hs h1 h2 h3
  rw [if_neg h3]
  by_cases h4 : s.size < 12 + wordAt s 0
  · rw [if_pos h4]; exact lawdec_4 s n w hs h1 h2 h3 h4
  rw [if_neg h4]
  by_cases h5 : crc (s.extract 0 8 ++ s.extract 12 (12 + wordAt s 0)) ≠ wordAt s 8
  · rw [if_pos h5]; exact lawdec_5 s n w hs h1 h2 h3 h4 h5
  rw [if_neg h5]; exact lawdec_6 s n w hs h1 h2 h3 h4 h5
end Go.Proofs.Ythfnpakddnnccaa
