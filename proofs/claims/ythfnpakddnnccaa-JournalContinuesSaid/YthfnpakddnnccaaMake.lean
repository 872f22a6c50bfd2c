/- string(make([]byte, N)): some string of N bytes. -/
import Derived.Test.YthfnpakddnnccaaTurn
import Derived.Laws.MakeOwn
namespace Go.Proofs.Ythfnpakddnnccaa
open Go.RowKit
set_option linter.unusedVariables false

theorem infoU8' : (Try.prog.info? 5).map (fun i => (i.zero, i.size, i.bytes)) = some (some (.int .u8 0), 1, 1) := by kernel_rfl
theorem infoU8 : ∃ i, Try.prog.info? 5 = some i ∧ i.zero = some (.int .u8 0) ∧ i.size = 1 ∧ i.bytes = 1 := by
  have h := infoU8'
  rw [Option.map_eq_some_iff] at h
  obtain ⟨i, hi, he⟩ := h
  simp only [Prod.mk.injEq] at he
  exact ⟨i, hi, he.1, he.2.1, he.2.2⟩

theorem made_at (N j : Nat) (hj : j < N) : (madeCells #[.int .u8 0] N)[j]? = some (.int .u8 0) := by
  unfold madeCells
  rw [Array.getElem?_map, Array.getElem?_range, if_pos hj]
  show some ((#[.int .u8 0] : Array Value)[j % 1]!) = _
  rw [Nat.mod_one]
  rfl

theorem make_any (N : Nat) (hN : N ≤ 1000000) (w : World) : ∃ W : World, ∃ Z : ByteArray,
    (Instr.makeSlice 25 (.int .i64 (N : Int)) (.int .i64 (N : Int))).run Try.prog w = .ok (.slice (some ⟨w.heap.size, 0, none⟩) N N) W ∧
    (convert 25 9 (.slice (some ⟨w.heap.size, 0, none⟩) N N)).run Try.prog W = .ok (.string Z) W ∧ Z.size = N ∧ Below w.heap.size w W ∧ w.heap.size < W.heap.size := by
  obtain ⟨i, hi, hz, hsz, hb⟩ := infoU8
  have h1 := run_make (P := Try.prog) w 25 5 i (.int .u8 0) (by kernel_rfl) hi hz .i64 .i64 (N : Int) (N : Int) (by omega) (by omega) (by rw [hb]; omega) (by omega)
  rw [Int.toNat_natCast, hsz, Nat.mul_one] at h1
  have hcell : ∀ j, j < N → (w.alloc (.cells (madeCells #[.int .u8 0] N) 5)).cell? ⟨w.heap.size, j, none⟩ = some (.int .u8 0) := by
    intro j hj
    rw [World.cell?_alloc_mark w (madeCells #[.int .u8 0] N) 5 _ j, made_at N j hj]
  have h2 := run_convert_bytes_back (P := Try.prog) (w.alloc (.cells (madeCells #[.int .u8 0] N) 5)) 25 9 5 ⟨w.heap.size, 0, none⟩ N (List.replicate N 0) (by kernel_rfl) (by kernel_rfl) (by kernel_rfl) (by
    intro j hj
    have hj' : j < N := by rw [List.length_replicate] at hj; exact hj
    have ha : (⟨w.heap.size, 0, none⟩ : Addr).add j = ⟨w.heap.size, j, none⟩ := by unfold Addr.add; split <;> simp_all
    rw [ha, hcell j hj', List.getElem_replicate]
    rfl)
  rw [List.length_replicate] at h2
  refine ⟨_, _, h1, h2, ?_, (Below.refl _ _).alloc (Nat.le_refl _) _, ?_⟩
  · show (List.replicate N (0 : UInt8)).toArray.size = N
    rw [List.size_toArray, List.length_replicate]
  · rw [World.size_alloc]; exact Nat.lt_succ_self _
theorem make_long (w : World) : ∃ W : World, ∃ Z : ByteArray,
    (Instr.makeSlice 25 (.int .i64 65537) (.int .i64 65537)).run Try.prog w = .ok (.slice (some ⟨w.heap.size, 0, none⟩) 65537 65537) W ∧
    (convert 25 9 (.slice (some ⟨w.heap.size, 0, none⟩) 65537 65537)).run Try.prog W = .ok (.string Z) W ∧ Z.size = 65537 ∧ Below w.heap.size w W ∧ w.heap.size < W.heap.size :=
  make_any 65537 (by omega) w
end Go.Proofs.Ythfnpakddnnccaa
