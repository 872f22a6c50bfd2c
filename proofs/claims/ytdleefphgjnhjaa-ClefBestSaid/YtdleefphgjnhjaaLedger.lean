/- Ledger, of the package and of the reference: contracts. -/
import Derived.Test.YtdleefphgjnhjaaClef
namespace Go.Proofs.Ytdleefphgjnhjaa
open Go.RowKit
set_option linter.unusedVariables false

/-- The first n of 6, 8, .. ; of -6, -8, .. -/
def ups (n : Nat) : List Int := (List.range n).map fun (i : Nat) => 6 + 2 * (i : Int)
def downs (n : Nat) : List Int := (List.range n).map fun (i : Nat) => -6 - 2 * (i : Int)
theorem ups_snoc (n : Nat) : ups (n + 1) = ups n ++ [6 + 2 * (n : Int)] := by simp [ups, List.range_succ]
theorem downs_snoc (n : Nat) : downs (n + 1) = downs n ++ [-6 - 2 * (n : Int)] := by simp [downs, List.range_succ]
theorem ups_len (n : Nat) : (ups n).length = n := by simp [ups]
theorem downs_len (n : Nat) : (downs n).length = n := by simp [downs]
def ledger (p : Int) : List Int := if p < -200 ∨ 200 < p then [] else ups ((p - 4) / 2).toNat ++ downs ((-p - 4) / 2).toNat
abbrev ints (l : List Int) : List Value := l.map (Value.int .i64)

theorem infoInt : (Try.prog.info? 3).map (fun i => (i.zero, i.size, i.bytes)) = some (some (.int .i64 0), 1, 8) := by kernel_rfl

abbrev AccI (W w : World) (v : Value) (l : List Int) : Prop := Acc 3 1 W w v l.length (ints l)
theorem accI_nil (W : World) : AccI W W (.slice none 0 0) [] := acc_nil _ _ _
theorem wpList_pushI {ops : Array Oper} {rest : List Oper} {o : Oper} {a : Act} {Q : Exit → Act → World → Prop} (hgd : o.guard = none) (s x : Operand)
    (ho : o.op = .call { callee := .builtin .append, args := #[s, x], argTypes := #[38, 38] })
    {W w : World} {v : Value} {l : List Int} (y : Int) (hacc : AccI W w v l) (hs : a.eval s = v) (hx : a.eval x = .slice (some ⟨w.heap.size, 0, none⟩) 1 1) (hl : l.length ≤ 60000)
    (h : ∀ v' w', AccI W w' v' (l ++ [y]) → wpList Try.prog ops Q rest (a.put o.dst v') w') : wpList Try.prog ops Q (o :: rest) a (w.alloc (.cells #[.int .i64 y] 3)) :=
  wpList_push hgd s x 38 ho 3 1 8 (.int .i64 0) Try.underlying38 infoInt rfl (by decide) [.int .i64 y] hacc hs hx rfl (by simp [Value.oneCell']) (by omega) (by decide) fun v' w' h' => h v' w' (by
    have e : (l ++ [y]).length = l.length + 1 := by simp
    show Acc _ _ _ _ _ (l ++ [y]).length (ints (l ++ [y]))
    rw [e]; simpa using h')

theorem ledger_any (p : Int) (w : World) (h0 : -9223372036854775808 ≤ p) (h1 : p ≤ 9223372036854775807) :
    Calls Try.prog 19 #[.int .i64 p] w fun e w' => ∃ v, e = .returned v ∧ Acc 3 1 w w' v (ledger p).length (ints (ledger p)) := by
  by_cases hr : p < -200 ∨ 200 < p
  · have hl : ledger p = [] := if_pos hr
    rw [hl]
    rcases hr with hr | hr
    · go_enter Try.func19, Try.ntmps19
      go_wp2
      go_returns
      exact ⟨_, rfl, acc_nil _ _ _⟩
    · have : ¬ p < -200 := by omega
      go_enter Try.func19, Try.ntmps19
      go_wp2
      go_returns
      exact ⟨_, rfl, acc_nil _ _ _⟩
  · have h2 : -200 ≤ p := by omega
    have h3 : p ≤ 200 := by omega
    have hl : ledger p = ups ((p - 4) / 2).toNat ++ downs ((-p - 4) / 2).toNat := if_neg hr
    rw [hl]
    clear hl hr
    have hN : ∃ N : Nat, N = ((p - 4) / 2).toNat := ⟨_, rfl⟩
    obtain ⟨N, hN⟩ := hN
    have hM : ∃ M : Nat, M = ((-p - 4) / 2).toNat := ⟨_, rfl⟩
    obtain ⟨M, hM⟩ := hM
    rw [← hN, ← hM]
    have a1 : N = 0 ∨ (N : Int) * 2 ≤ p - 4 := by omega
    have a2 : p - 4 < (N : Int) * 2 + 2 := by omega
    have b1 : M = 0 ∨ (M : Int) * 2 ≤ -p - 4 := by omega
    have b2 : -p - 4 < (M : Int) * 2 + 2 := by omega
    have c1 : N ≤ 98 := by omega
    have c2 : M ≤ 98 := by omega
    have c3 : N = 0 ∨ M = 0 := by omega
    clear hN hM
    go_enter Try.func19, Try.ntmps19
    go_wp2
    go_outline
    go_loopw [3, 4] (fun v i wr => ∃ k : Nat, k ≤ N ∧ i = .int .i64 (6 + 2 * (k : Int)) ∧ Acc 3 1 w wr v k (ints (ups k))) (fun _ i _ => (1000 - intOf i).toNat)
    case atStart => exact ⟨0, Nat.zero_le _, rfl, acc_nil _ _ _⟩
    case round =>
      obtain ⟨k, hk, rfl, hacc⟩ := hrel
      by_cases hlt : k < N
      · have t1 : 6 + 2 * (k : Int) ≤ p := by omega
        go_wp2_with ((at_builtin; refine wpList_push rfl _ _ 38 rfl 3 1 8 (.int .i64 0) Try.underlying38 infoInt rfl (by decide) [.int .i64 (6 + 2 * (k : Int))] hacc (by rfl) (by rfl) (by rfl) (by simp [Value.oneCell']) (by omega) (by decide) ?_; intro v' w1 hacc'))
        go_roundw
        case rel => exact ⟨k + 1, by omega, by go_num, by rw [ups_snoc]; simpa using hacc'⟩
        case measure => simp [intOf]; omega
      · have hk' : k = N := by omega
        subst hk'
        have t1 : p < 6 + 2 * (k : Int) := by omega
        go_wp2
        go_loopw [3, 5] (fun v i wr => ∃ m : Nat, m ≤ M ∧ i = .int .i64 (-6 - 2 * (m : Int)) ∧ Acc 3 1 w wr v (k + m) (ints (ups k ++ downs m))) (fun _ i _ => (1000 + intOf i).toNat)
        case atStart => exact ⟨0, Nat.zero_le _, rfl, by simpa [downs] using hacc⟩
        case round =>
          clear hacc
          obtain ⟨m, hm, rfl, hacc⟩ := hrel
          by_cases hlm : m < M
          · have t2 : p ≤ -6 - 2 * (m : Int) := by omega
            go_wp2_with ((at_builtin; refine wpList_push rfl _ _ 38 rfl 3 1 8 (.int .i64 0) Try.underlying38 infoInt rfl (by decide) [.int .i64 (-6 - 2 * (m : Int))] hacc (by rfl) (by rfl) (by rfl) (by simp [Value.oneCell']) (by omega) (by decide) ?_; intro v' w1 hacc'))
            go_roundw
            case rel => exact ⟨m + 1, by omega, by go_num, by rw [downs_snoc]; simpa [Nat.add_assoc] using hacc'⟩
            case measure => simp [intOf]; omega
          · have hm' : m = M := by omega
            subst hm'
            have t2 : -6 - 2 * (m : Int) < p := by omega
            go_wp2
            go_returns
            exact ⟨_, rfl, by rw [List.length_append, ups_len, downs_len]; exact hacc⟩

theorem ref_ledger_any (p : Int) (w : World) (h0 : -9223372036854775808 ≤ p) (h1 : p ≤ 9223372036854775807) :
    Calls Try.prog 20 #[.int .i64 p] w fun e w' => ∃ v, e = .returned v ∧ Acc 3 1 w w' v (ledger p).length (ints (ledger p)) := by
  by_cases hr : p < -200 ∨ 200 < p
  · have hl : ledger p = [] := if_pos hr
    rw [hl]
    rcases hr with hr | hr
    · go_enter Try.func20, Try.ntmps20
      go_wp2
      go_returns
      exact ⟨_, rfl, acc_nil _ _ _⟩
    · have : ¬ p < -200 := by omega
      go_enter Try.func20, Try.ntmps20
      go_wp2
      go_returns
      exact ⟨_, rfl, acc_nil _ _ _⟩
  · have h2 : -200 ≤ p := by omega
    have h3 : p ≤ 200 := by omega
    have hl : ledger p = ups ((p - 4) / 2).toNat ++ downs ((-p - 4) / 2).toNat := if_neg hr
    rw [hl]
    clear hl hr
    have hN : ∃ N : Nat, N = ((p - 4) / 2).toNat := ⟨_, rfl⟩
    obtain ⟨N, hN⟩ := hN
    have hM : ∃ M : Nat, M = ((-p - 4) / 2).toNat := ⟨_, rfl⟩
    obtain ⟨M, hM⟩ := hM
    rw [← hN, ← hM]
    have a1 : N = 0 ∨ (N : Int) * 2 ≤ p - 4 := by omega
    have a2 : p - 4 < (N : Int) * 2 + 2 := by omega
    have b1 : M = 0 ∨ (M : Int) * 2 ≤ -p - 4 := by omega
    have b2 : -p - 4 < (M : Int) * 2 + 2 := by omega
    have c1 : N ≤ 98 := by omega
    have c2 : M ≤ 98 := by omega
    have c3 : N = 0 ∨ M = 0 := by omega
    clear hN hM
    go_enter Try.func20, Try.ntmps20
    go_wp2
    go_outline
    go_loopw [3, 4] (fun v i wr => ∃ k : Nat, k ≤ N ∧ i = .int .i64 (6 + 2 * (k : Int)) ∧ Acc 3 1 w wr v k (ints (ups k))) (fun _ i _ => (1000 - intOf i).toNat)
    case atStart => exact ⟨0, Nat.zero_le _, rfl, acc_nil _ _ _⟩
    case round =>
      obtain ⟨k, hk, rfl, hacc⟩ := hrel
      by_cases hlt : k < N
      · have t1 : 6 + 2 * (k : Int) ≤ p := by omega
        go_wp2_with ((at_builtin; refine wpList_push rfl _ _ 38 rfl 3 1 8 (.int .i64 0) Try.underlying38 infoInt rfl (by decide) [.int .i64 (6 + 2 * (k : Int))] hacc (by rfl) (by rfl) (by rfl) (by simp [Value.oneCell']) (by omega) (by decide) ?_; intro v' w1 hacc'))
        go_roundw
        case rel => exact ⟨k + 1, by omega, by go_num, by rw [ups_snoc]; simpa using hacc'⟩
        case measure => simp [intOf]; omega
      · have hk' : k = N := by omega
        subst hk'
        have t1 : p < 6 + 2 * (k : Int) := by omega
        go_wp2
        go_loopw [3, 5] (fun v i wr => ∃ m : Nat, m ≤ M ∧ i = .int .i64 (-6 - 2 * (m : Int)) ∧ Acc 3 1 w wr v (k + m) (ints (ups k ++ downs m))) (fun _ i _ => (1000 + intOf i).toNat)
        case atStart => exact ⟨0, Nat.zero_le _, rfl, by simpa [downs] using hacc⟩
        case round =>
          clear hacc
          obtain ⟨m, hm, rfl, hacc⟩ := hrel
          by_cases hlm : m < M
          · have t2 : p ≤ -6 - 2 * (m : Int) := by omega
            go_wp2_with ((at_builtin; refine wpList_push rfl _ _ 38 rfl 3 1 8 (.int .i64 0) Try.underlying38 infoInt rfl (by decide) [.int .i64 (-6 - 2 * (m : Int))] hacc (by rfl) (by rfl) (by rfl) (by simp [Value.oneCell']) (by omega) (by decide) ?_; intro v' w1 hacc'))
            go_roundw
            case rel => exact ⟨m + 1, by omega, by go_num, by rw [downs_snoc]; simpa [Nat.add_assoc] using hacc'⟩
            case measure => simp [intOf]; omega
          · have hm' : m = M := by omega
            subst hm'
            have t2 : -6 - 2 * (m : Int) < p := by omega
            go_wp2
            go_returns
            exact ⟨_, rfl, by rw [List.length_append, ups_len, downs_len]; exact hacc⟩

end Go.Proofs.Ytdleefphgjnhjaa
