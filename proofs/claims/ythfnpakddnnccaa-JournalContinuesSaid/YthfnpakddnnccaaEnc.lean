/- Encode of package journal and encode of the law: contracts. -/
import Derived.Test.YthfnpakddnnccaaCode
namespace Go.Proofs.Ythfnpakddnnccaa
open Go.RowKit
set_option linter.unusedVariables false

theorem results_tmp2 {fn : Func} {t u : Tmp} (h : fn.results = #[.tmp t, .tmp u]) (tmps : Array Value) (P : Program) (w : World) :
    (results fn tmps).run P w = .ok (.tuple #[tmps.getD t undef, tmps.getD u undef]) w := by simp [results, h]
theorem encode_bad (n : Int) (r : ByteArray) (w : World) (hr : r.size ≤ maxLen) (h : n < 0 ∨ 2147483647 < n) :
    Calls Try.prog 17 #[.int .i64 n, .string r] w fun e w' => e = .returned (.tuple #[.string none', .int .i64 2]) ∧ w' = w := by
  rcases h with h | h
  · go_enter Try.func17, Try.ntmps17
    go_wp2
    refine bodyPost_ret (results_tmp2 rfl _ _ _) rfl ?_
    exact ⟨rfl, rfl⟩
  · have h0 : 0 ≤ n := by omega
    go_enter Try.func17, Try.ntmps17
    go_wp2
    refine bodyPost_ret (results_tmp2 rfl _ _ _) rfl ?_
    exact ⟨rfl, rfl⟩
theorem encode_long (n : Int) (r : ByteArray) (w : World) (hr : r.size ≤ maxLen) (h0 : 0 ≤ n) (h1 : n ≤ 2147483647) (hl : 65536 < r.size) :
    Calls Try.prog 17 #[.int .i64 n, .string r] w fun e w' => e = .returned (.tuple #[.string none', .int .i64 5]) ∧ w' = w := by
  unfold maxLen at hr
  go_enter Try.func17, Try.ntmps17
  go_wp2
  refine bodyPost_ret (results_tmp2 rfl _ _ _) rfl ?_
  exact ⟨rfl, rfl⟩
set_option maxHeartbeats 2000000 in
theorem encode_ok (n : Nat) (r : ByteArray) (w : World) (h1 : n ≤ 2147483647) (hl : r.size ≤ 65536) :
    Calls Try.prog 17 #[.int .i64 (n : Int), .string r] w fun e w' => e = .returned (.tuple #[.string (encS n r), .int .i64 0]) ∧ Below w.heap.size w w' := by
  have a1 := str_add (fourS r.size) (fourS n) (by rw [size_four, size_four]; omega)
  have a2 := str_add (headS r.size n) r (by rw [size_head]; omega)
  have a3 := str_add (headS r.size n) (fourS (crc (headS r.size n ++ r))) (by rw [size_head, size_four]; omega)
  have a4 := str_add (headS r.size n ++ fourS (crc (headS r.size n ++ r))) r (by rw [ByteArray.size_append, size_head, size_four]; omega)
  have hx : (headS r.size n ++ r).size ≤ maxLen := by rw [ByteArray.size_append, size_head]; unfold maxLen; omega
  have hc := crc_lt (headS r.size n ++ r)
  have he : encS n r = headS r.size n ++ fourS (crc (headS r.size n ++ r)) ++ r := rfl
  have hh : fourS r.size ++ fourS n = headS r.size n := rfl
  rw [hh] at a1
  rw [he]
  clear he
  have m1 : (r.size : Int) % 4294967296 = (r.size : Int) := by omega
  have m2 : (n : Int) % 4294967296 = (n : Int) := by omega
  have c1 := fun w => four_any r.size w (by omega)
  have c2 := fun w => four_any n w (by omega)
  have c3 := fun w => checksum_any (headS r.size n ++ r) w hx
  have c4 := fun w => four_any (crc (headS r.size n ++ r)) w hc
  clear hh
  generalize fourS r.size = F1 at *
  generalize fourS n = F2 at *
  generalize headS r.size n = H at *
  generalize H ++ r = X at *
  generalize fourS (crc X) = F4 at *
  generalize H ++ F4 = Y at *
  generalize Y ++ r = Z at *
  go_enter Try.func17, Try.ntmps17
  go_wp2_with fail
  refine (c1 _).mono ?_
  rintro e w1 ⟨rfl, B1⟩
  have z1 := B1.size
  go_wp2_with fail
  refine (c2 _).mono ?_
  rintro e w2 ⟨rfl, B2⟩
  have z2 := B2.size
  go_wp2_with fail
  refine (c3 _).mono ?_
  rintro e w3 ⟨rfl, rfl⟩
  go_wp2_with fail
  refine (c4 _).mono ?_
  rintro e w4 ⟨rfl, B4⟩
  go_wp2
  refine bodyPost_ret (results_tmp2 rfl _ _ _) rfl ?_
  exact ⟨rfl, (B1.trans (B2.mono z1)).trans (B4.mono (Nat.le_trans z1 z2))⟩
set_option maxHeartbeats 2000000 in
theorem lawenc_ok (n : Nat) (r : ByteArray) (w : World) (h1 : n ≤ 2147483647) (hl : r.size ≤ 65536) :
    Calls Try.prog 19 #[.int .i64 (n : Int), .string r] w fun e w' => e = .returned (.string (encS n r)) ∧ Below w.heap.size w w' := by
  have a1 := str_add (fourS r.size) (fourS n) (by rw [size_four, size_four]; omega)
  have a2 := str_add (headS r.size n) r (by rw [size_head]; omega)
  have a3 := str_add (headS r.size n) (fourS (crc (headS r.size n ++ r))) (by rw [size_head, size_four]; omega)
  have a4 := str_add (headS r.size n ++ fourS (crc (headS r.size n ++ r))) r (by rw [ByteArray.size_append, size_head, size_four]; omega)
  have hx : (headS r.size n ++ r).size ≤ maxLen := by rw [ByteArray.size_append, size_head]; unfold maxLen; omega
  have hc := crc_lt (headS r.size n ++ r)
  have he : encS n r = headS r.size n ++ fourS (crc (headS r.size n ++ r)) ++ r := rfl
  have hh : fourS r.size ++ fourS n = headS r.size n := rfl
  rw [hh] at a1
  rw [he]
  clear he
  have c1 := fun w => lawfour_any r.size w (by omega)
  have c2 := fun w => lawfour_any n w (by omega)
  have c3 := fun w => lawsum_any (headS r.size n ++ r) w hx
  have c4 := fun w => lawfour_any (crc (headS r.size n ++ r)) w hc
  clear hh
  generalize fourS r.size = F1 at *
  generalize fourS n = F2 at *
  generalize headS r.size n = H at *
  generalize H ++ r = X at *
  generalize fourS (crc X) = F4 at *
  generalize H ++ F4 = Y at *
  generalize Y ++ r = Z at *
  go_enter Try.func19, Try.ntmps19
  go_wp2_with fail
  refine (c1 _).mono ?_
  rintro e w1 ⟨rfl, B1⟩
  have z1 := B1.size
  go_wp2_with fail
  refine (c2 _).mono ?_
  rintro e w2 ⟨rfl, B2⟩
  have z2 := B2.size
  go_wp2_with fail
  refine (c3 _).mono ?_
  rintro e w3 ⟨rfl, rfl⟩
  go_wp2_with fail
  refine (c4 _).mono ?_
  rintro e w4 ⟨rfl, B4⟩
  go_wp2
  go_returns
  exact ⟨rfl, (B1.trans (B2.mono z1)).trans (B4.mono (Nat.le_trans z1 z2))⟩

/-- What Decode makes of an encoded record. -/
theorem fourS_word (n : Nat) (hn : n < 4294967296) : 16777216 * (UInt8.ofNat (n / 16777216)).toNat + 65536 * (UInt8.ofNat (n / 65536)).toNat + 256 * (UInt8.ofNat (n / 256)).toNat + (UInt8.ofNat n).toNat = n := by
  rw [UInt8.toNat_ofNat', UInt8.toNat_ofNat', UInt8.toNat_ofNat', UInt8.toNat_ofNat']
  omega
theorem wordAt_mid (a b : ByteArray) (n : Nat) (hn : n < 4294967296) : wordAt (a ++ fourS n ++ b) a.size = n := by
  have h : ∀ i : Nat, i < 4 → (a ++ fourS n ++ b).data.getD (a.size + i) 0 = (fourL n).getD i 0 := by
    intro i hi
    have e : (a ++ fourS n ++ b).data = a.data ++ (fourL n).toArray ++ b.data := by
      rw [ByteArray.data_append, ByteArray.data_append]; rfl
    have l4 : (fourL n).toArray.size = 4 := rfl
    rw [e, Array.getD_eq_getD_getElem?, Array.getElem?_append_left (by rw [Array.size_append, l4]; show a.data.size + i < _; omega),
      Array.getElem?_append_right (by show a.data.size ≤ a.data.size + i; omega), List.getD_eq_getElem?_getD]
    rw [show a.size + i - a.data.size = i from by show a.data.size + i - a.data.size = i; omega]
    simp
  unfold wordAt
  rw [h 1 (by omega), h 2 (by omega), h 3 (by omega), show a.size = a.size + 0 from rfl, h 0 (by omega)]
  exact fourS_word n hn
end Go.Proofs.Ythfnpakddnnccaa
