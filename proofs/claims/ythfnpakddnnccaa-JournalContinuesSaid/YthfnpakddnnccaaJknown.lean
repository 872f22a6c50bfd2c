/- Decode of what Encode returns; known. -/
import Derived.Test.YthfnpakddnnccaaEnc
namespace Go.Proofs.Ythfnpakddnnccaa
open Go.RowKit
set_option linter.unusedVariables false

theorem ext_mid (a b c : ByteArray) : (a ++ b ++ c).extract a.size (a.size + b.size) = b := by
  apply ByteArray.ext
  apply Array.ext'
  rw [ByteArray.data_extract, ByteArray.data_append, ByteArray.data_append, Array.toList_extract, Array.toList_append, Array.toList_append, List.append_assoc]
  have ha : a.size = a.data.toList.length := rfl
  have hb : b.size = b.data.toList.length := rfl
  rw [List.extract_eq_take_drop, ha, hb, List.drop_left, Nat.add_sub_cancel_left, List.take_left]
theorem ext_head (a c : ByteArray) : (a ++ c).extract 0 a.size = a := by
  have := ext_mid ByteArray.empty a c
  simpa using this
theorem dec_enc (n : Nat) (r t : ByteArray) (h1 : n ≤ 2147483647) (hl : r.size ≤ 65536) : dec (encS n r ++ t) (n : Int) = (r, 12 + r.size, 0) := by
  have hsz : (encS n r ++ t).size = 12 + r.size + t.size := by rw [ByteArray.size_append, size_enc]
  have hc := crc_lt (headS r.size n ++ r)
  have e0 : encS n r ++ t = ByteArray.empty ++ fourS r.size ++ (fourS n ++ (fourS (crc (headS r.size n ++ r)) ++ (r ++ t))) := by
    unfold encS
    conv => lhs; rw [show headS r.size n = fourS r.size ++ fourS n from rfl]
    rw [ByteArray.empty_append]
    simp only [ByteArray.append_assoc]
    rfl
  have e4 : encS n r ++ t = fourS r.size ++ fourS n ++ (fourS (crc (headS r.size n ++ r)) ++ (r ++ t)) := by
    rw [e0, ByteArray.empty_append]
    simp only [ByteArray.append_assoc]
  have e8 : encS n r ++ t = headS r.size n ++ fourS (crc (headS r.size n ++ r)) ++ (r ++ t) := by
    unfold encS
    simp only [ByteArray.append_assoc]
  have e12 : encS n r ++ t = (headS r.size n ++ fourS (crc (headS r.size n ++ r))) ++ r ++ t := rfl
  have w0 : wordAt (encS n r ++ t) 0 = r.size := by
    rw [e0]
    exact wordAt_mid ByteArray.empty _ r.size (by omega)
  have w4 : wordAt (encS n r ++ t) 4 = n := by
    rw [e4]
    exact wordAt_mid (fourS r.size) _ n (by omega)
  have w8 : wordAt (encS n r ++ t) 8 = crc (headS r.size n ++ r) := by
    rw [e8]
    have := wordAt_mid (headS r.size n) (r ++ t) (crc (headS r.size n ++ r)) hc
    rw [size_head] at this
    exact this
  have x0 : (encS n r ++ t).extract 0 8 = headS r.size n := by
    rw [e8, ByteArray.append_assoc]
    have := ext_head (headS r.size n) (fourS (crc (headS r.size n ++ r)) ++ (r ++ t))
    rw [size_head] at this
    exact this
  have x12 : (encS n r ++ t).extract 12 (12 + r.size) = r := by
    rw [e12]
    have := ext_mid (headS r.size n ++ fourS (crc (headS r.size n ++ r))) r t
    rw [ByteArray.size_append, size_head, size_four] at this
    exact this
  unfold dec
  rw [w0, w4, w8, x0, x12, hsz, if_neg (by omega), if_neg (by omega), if_neg (by simp), if_neg (by omega), if_neg (by simp)]

def oneA : ByteArray := ⟨#[97]⟩
theorem known_crc : crc ⟨#[49, 50, 51, 52, 53, 54, 55, 56, 57]⟩ = 3421780262 := by decide +kernel
theorem known_3 : (encS 1 oneA).data.getD 3 0 = 1 := by decide +kernel
theorem known_7 : (encS 1 oneA).data.getD 7 0 = 1 := by decide +kernel

set_option maxHeartbeats 2000000 in
theorem known_any (w : World) : Calls Try.prog 14 #[] w fun e w' => e = .returned (.bool true) ∧ Below w.heap.size w w' := by
  have c1 := fun w => encode_ok 1 oneA w (by omega) (by decide)
  have c2 := fun w => decode_any (encS 1 oneA) 1 w (by rw [size_enc]; decide)
  have hd : dec (encS 1 oneA) 1 = (oneA, 13, 0) := by
    have := dec_enc 1 oneA ByteArray.empty (by omega) (by decide)
    rw [ByteArray.append_empty] at this
    exact this
  rw [hd] at c2
  simp only [decV] at c2
  have c3 := fun w => checksum_any ⟨#[49, 50, 51, 52, 53, 54, 55, 56, 57]⟩ w (by decide)
  rw [known_crc] at c3
  have hs : (encS 1 oneA).size = 13 := by rw [size_enc]; rfl
  have i3 : ∀ w : World, (Instr.index 9 (.string (encS 1 oneA)) (.int .i64 3)).run Try.prog w = .ok (.int .u8 ((1 : UInt8).toNat : Int)) w := by
    rw [← known_3]; exact str_index _ 3 (by omega)
  have i7 : ∀ w : World, (Instr.index 9 (.string (encS 1 oneA)) (.int .i64 7)).run Try.prog w = .ok (.int .u8 ((1 : UInt8).toNat : Int)) w := by
    rw [← known_7]; exact str_index _ 7 (by omega)
  clear hd
  generalize encS 1 oneA = S at *
  unfold oneA at *
  go_enter Try.func14, Try.ntmps14
  go_wp2_with fail
  refine (c1 _).mono ?_
  rintro e w1 ⟨rfl, B1⟩
  have z1 := B1.size
  go_wp2_with fail
  refine (c2 _).mono ?_
  rintro e w2 ⟨rfl, B2⟩
  have z2 := B2.size
  go_wp2_with fail
  refine (c3 _).mono ?_
  rintro e w3 ⟨rfl, rfl⟩
  go_wp2
  go_returns
  exact ⟨rfl, B1.trans (B2.mono z1)⟩
end Go.Proofs.Ythfnpakddnnccaa
