/- A string's bytes laid as a slice, one of them turned, and read back as a string. -/
import Derived.Test.YthfnpakddnnccaaJknown
import Derived.Laws.Tables
namespace Go.Proofs.Ythfnpakddnnccaa
open Go.RowKit
set_option linter.unusedVariables false

theorem lay_conv (s : ByteArray) (w : World) : ∃ W : World, ∃ cap : Nat, (convert 9 25 (.string s)).run Try.prog w = .ok (.slice (some ⟨w.heap.size, 0, none⟩) s.size cap) W ∧
    (∀ j, j < s.size → W.cell? ⟨w.heap.size, j, none⟩ = some (.int .u8 ((s.data.getD j 0).toNat : Int))) ∧ (∀ j, j < s.size → W.frozen? ⟨w.heap.size, j, none⟩ = false) ∧
    w.heap.size < W.heap.size ∧ Below w.heap.size w W ∧ s.size ≤ cap := by
  refine ⟨_, _, run_bytes_of_string w 9 25 5 s (by kernel_rfl) (by kernel_rfl) (by kernel_rfl), ?_, ?_, ?_, ?_, ?_⟩
  · intro j hj
    have := World.cell?_alloc_mark w.drew (bytesRow s (grownCap w s.size 0 5)) 5 ((bytesRow s (grownCap w s.size 0 5)).size, (bytesRow s (grownCap w s.size 0 5)).size + 1) j
    rw [show w.heap.size = w.drew.heap.size from rfl, this, bytesRow_at s _ j hj, Array.getD_eq_getD_getElem?, Array.getElem?_eq_getElem hj]
    rfl
  · intro j hj
    have := World.frozen?_alloc_mark w.drew (bytesRow s (grownCap w s.size 0 5)) 5 (bytesRow s (grownCap w s.size 0 5)).size ((bytesRow s (grownCap w s.size 0 5)).size + 1) j
    rw [show w.heap.size = w.drew.heap.size from rfl, this]
    have hz : s.size ≤ (bytesRow s (grownCap w s.size 0 5)).size := by
      unfold bytesRow
      rw [Array.size_append, Array.size_map]
      exact Nat.le_add_right _ _
    rw [decide_eq_false (by omega), Bool.false_and]
  · rw [World.size_alloc]; exact Nat.lt_succ_self _
  · exact ((Below.refl _ _).drew).alloc (Nat.le_refl _) _
  · exact grownCap_ge w s.size 0 _

theorem turn_conv (T : ByteArray) (W : World) (b k y cap : Nat) (hk : k < T.size) (hy : y < 256) (hc : ∀ j, j < T.size → W.cell? ⟨b, j, none⟩ = some (.int .u8 ((T.data.getD j 0).toNat : Int))) :
    (convert 25 9 (.slice (some ⟨b, 0, none⟩) T.size cap)).run Try.prog (W.setCell ⟨b, k, none⟩ (.int .u8 (y : Int))) =
      .ok (.string ⟨(T.data.toList.set k (UInt8.ofNat y)).toArray⟩) (W.setCell ⟨b, k, none⟩ (.int .u8 (y : Int))) := by
  have hl : (T.data.toList.set k (UInt8.ofNat y)).length = T.size := by rw [List.length_set]; rfl
  have := run_convert_bytes_back (P := Try.prog) (W.setCell ⟨b, k, none⟩ (.int .u8 (y : Int))) 25 9 5 ⟨b, 0, none⟩ cap (T.data.toList.set k (UInt8.ofNat y)) (by kernel_rfl) (by kernel_rfl) (by kernel_rfl) (by
    intro j hj
    have hj' : j < T.size := by rw [← hl]; exact hj
    have ha : (⟨b, 0, none⟩ : Addr).add j = ⟨b, j, none⟩ := by unfold Addr.add; split <;> simp_all
    rw [ha]
    by_cases e : j = k
    · subst e
      rw [World.cell?_setCell_same' _ _ _ (by rw [hc j hj']; rfl)]
      rw [List.getElem_set_self, UInt8.toNat_ofNat', Nat.mod_eq_of_lt (by omega)]
    · rw [World.cell?_setCell_other _ _ _ _ (by first | (simp; done) | (simp; omega)), hc j hj', List.getElem_set_ne (by omega)]
      rw [Array.getD_eq_getD_getElem?, Array.getElem?_eq_getElem hj']
      rfl)
  rw [hl] at this
  exact this

theorem turn_crc (T : ByteArray) (k d : Nat) (hk : k < T.size) (hd : d < 256) :
    crc ⟨(T.data.toList.set k (UInt8.ofNat ((T.data.getD k 0).toNat ^^^ d))).toArray⟩ = crc T ↔ d = 0 := by
  have hk' : k < T.data.toList.length := hk
  have hx : (T.data.getD k 0).toNat ^^^ d < 256 := by
    have := Nat.xor_lt_two_pow (x := (T.data.getD k 0).toNat) (y := d) (n := 8) (UInt8.toNat_lt _) hd
    omega
  have e1 : T.data.toList.set k (UInt8.ofNat ((T.data.getD k 0).toNat ^^^ d)) = T.data.toList.take k ++ UInt8.ofNat ((T.data.getD k 0).toNat ^^^ d) :: T.data.toList.drop (k + 1) := by
    rw [List.set_eq_take_append_cons_drop, if_pos hk']
  have e2 : T = ⟨(T.data.toList.take k ++ T.data.getD k 0 :: T.data.toList.drop (k + 1)).toArray⟩ := by
    apply ByteArray.ext
    apply Array.ext'
    show T.data.toList = T.data.toList.take k ++ T.data.getD k 0 :: T.data.toList.drop (k + 1)
    have : T.data.getD k 0 = T.data.toList[k] := by rw [Array.getD_eq_getD_getElem?, Array.getElem?_eq_getElem hk]; rfl
    rw [this, ← List.drop_eq_getElem_cons hk', List.take_append_drop]
  rw [e1]
  have h3 : crc T = crc ⟨(T.data.toList.take k ++ T.data.getD k 0 :: T.data.toList.drop (k + 1)).toArray⟩ := congrArg crc e2
  rw [h3, crc_turn]
  constructor
  · intro h
    have := congrArg UInt8.toNat h
    rw [UInt8.toNat_ofNat', Nat.mod_eq_of_lt (by omega)] at this
    have h4 := congrArg ((T.data.getD k 0).toNat ^^^ ·) this
    simpa [← Nat.xor_assoc] using h4
  · rintro rfl
    apply UInt8.toNat_inj.1
    rw [UInt8.toNat_ofNat', Nat.mod_eq_of_lt (by omega), Nat.xor_zero]
end Go.Proofs.Ythfnpakddnnccaa
