/- The reference of clef: Clefs, Position: contracts. -/
import Derived.Test.YtdleefphgjnhjaaClef
import Derived.Test.YtdleefphgjnhjaaRefp
import Derived.Deep.RegionWith
namespace Go.Proofs.Ytdleefphgjnhjaa
open Go.RowKit
set_option linter.unusedVariables false

theorem clefs_any (w : World) : Calls Try.prog 27 #[] w fun e w' => e = .returned (.slice (some ⟨w.heap.size, 0, none⟩) 9 9) ∧ w.alloc (.cells kindsA 52) = w' := by
  go_enter Try.func27, Try.ntmps27
  apply wp_seq_k; intro K hK
  apply wp_region_lit
  refine wpList_val (.slice none 0 0) rfl (by kernel_rfl) ?_
  apply wpList_nil
  simp only [Exit.then]
  apply hK
  clear hK K
  apply wp_seq_k; intro K hK
  apply wp_region_lit
  refine wpList_val (.agg (kindL 1).toArray) rfl (by kernel_rfl) ?_
  refine wpList_val (.agg (kindL 2).toArray) rfl (by kernel_rfl) ?_
  refine wpList_val (.agg (kindL 3).toArray) rfl (by kernel_rfl) ?_
  refine wpList_val (.agg (kindL 4).toArray) rfl (by kernel_rfl) ?_
  refine wpList_val (.agg (kindL 5).toArray) rfl (by kernel_rfl) ?_
  refine wpList_val (.agg (kindL 6).toArray) rfl (by kernel_rfl) ?_
  refine wpList_val (.agg (kindL 7).toArray) rfl (by kernel_rfl) ?_
  refine wpList_val (.agg (kindL 8).toArray) rfl (by kernel_rfl) ?_
  refine wpList_val (.agg (kindL 9).toArray) rfl (by kernel_rfl) ?_
  refine wpList_at (w' := w.alloc (.cells kindsA 52)) _ (.slice (some ⟨w.heap.size, 0, none⟩) 9 9) rfl rfl (by kernel_rfl) ?_
  refine wpList_val (.slice (some ⟨w.heap.size, 0, none⟩) 9 9) rfl (by kernel_rfl) ?_
  apply wpList_nil
  simp only [Exit.then]
  apply hK
  clear hK K
  apply wp_ret
  exact bodyPost_ret (results_tmp rfl _ _ _) (by kernel_rfl) ⟨by kernel_rfl, rfl⟩

theorem kindsA_at (k : Nat) (hk : k < 9) : kindsA[k * 7 + 4]? = some (.int .i64 (kMid ((k : Int) + 1))) := by
  have : k = 0 ∨ k = 1 ∨ k = 2 ∨ k = 3 ∨ k = 4 ∨ k = 5 ∨ k = 6 ∨ k = 7 ∨ k = 8 := by omega
  rcases this with rfl | rfl | rfl | rfl | rfl | rfl | rfl | rfl | rfl <;> rfl

set_option maxHeartbeats 4000000 in
theorem rposition_any (k : Nat) (s al o : Int) (w : World) (hk : k < 9) (h0 : 0 ≤ s) (h6 : s ≤ 6) (ho : -1 ≤ o) (ho' : o ≤ 9) :
    Calls Try.prog 26 #[.int .i64 ((k : Int) + 1), .agg #[.int .i64 s, .int .i64 al, .int .i64 o]] w fun e w' => e = .returned (.int .i64 (7 * o + s - kMid ((k : Int) + 1))) ∧ Below w.heap.size w w' := by
  obtain ⟨k0, k1⟩ := kMid_bd (c := (k : Int) + 1) (by omega) (by omega)
  go_enter Try.func26, Try.ntmps26
  go_wp2
  have i0 : (0 : Int) ≤ (k : Int) := by omega
  have i1 : (k : Int) < 9 := by omega
  have e0 : IntKind.i64.wrap (k : Int) = (k : Int) := IntWalk.i64_in _ (by omega)
  have e1 : IntKind.i64.wrap ((k : Int) + 1 - 1) = (k : Int) := by rw [show (k : Int) + 1 - 1 = k from by omega]; exact e0
  have e2 : IntKind.i64.wrap (7 * o) = 7 * o := IntWalk.i64_in _ (by omega)
  have e3 : IntKind.i64.wrap (7 * o + s) = 7 * o + s := IntWalk.i64_in _ (by omega)
  have e4 : IntKind.i64.wrap (7 * o + s - kMid ((k : Int) + 1)) = 7 * o + s - kMid ((k : Int) + 1) := IntWalk.i64_in _ (by omega)
  have hka := kindsA_at k hk
  go_region_with (go_at_call 27; refine (clefs_any _).mono ?_; rintro e w' ⟨rfl, rfl⟩)
  all_goals
    go_wp2
    go_returns
    exact ⟨rfl, by go_grown⟩

theorem valid_ok (c : Int) (w : World) (h1 : 1 ≤ c) (h9 : c ≤ 9) : Calls Try.prog 14 #[.int .i64 c] w fun e w' => e = .returned (.bool true) ∧ Below w.heap.size w w' := by
  go_enter Try.func14, Try.ntmps14
  go_wp2
  go_returns
  exact ⟨rfl, by go_grown⟩

theorem valid_bad (c : Int) (w : World) (h : c < 1 ∨ 9 < c) : Calls Try.prog 14 #[.int .i64 c] w fun e w' => e = .returned (.bool false) ∧ Below w.heap.size w w' := by
  rcases h with h | h
  · go_enter Try.func14, Try.ntmps14
    go_wp2
    go_returns
    exact ⟨rfl, by go_grown⟩
  · have h1 : 1 ≤ c := by omega
    go_enter Try.func14, Try.ntmps14
    go_wp2
    go_returns
    exact ⟨ret_eq (by simp; omega), by go_grown⟩

end Go.Proofs.Ytdleefphgjnhjaa
