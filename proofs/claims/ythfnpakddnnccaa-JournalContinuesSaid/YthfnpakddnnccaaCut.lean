/- The law's cut: contract. -/
import Derived.Test.YthfnpakddnnccaaSame
import Derived.Deep.RegionLaw
namespace Go.Proofs.Ythfnpakddnnccaa
open Go.RowKit
set_option linter.unusedVariables false

def cutR (s : ByteArray) : ByteArray := s.extract 0 (min s.size 40)
def cutL (l : List ByteArray) : List ByteArray := (l.take 20).map cutR
theorem size_cutR (s : ByteArray) : (cutR s).size ≤ 40 := by unfold cutR; rw [ByteArray.size_extract]; omega
theorem step_pushS {ops : Array Oper} {o : Oper} {a : Act} {K : Act → World → Prop} {Q : Exit → Act → World → Prop} {E : Prop} (hgd : o.guard = none) (s x : Operand)
    (ho : o.op = .call { callee := .builtin .append, args := #[s, x], argTypes := #[35, 35] })
    {W w : World} {v : Value} {n : Nat} {xs : List Value} (y : ByteArray) (hacc : Acc STR 1 W w v n xs) (hs : a.eval s = v) (hx : a.eval x = .slice (some ⟨w.heap.size, 0, none⟩) 1 1) (h63 : n + 1 ≤ 65536)
    (h : ∀ g c w', Acc STR 1 W w' (.slice (some ⟨g, 0, none⟩) (n + 1) c) (n + 1) (xs ++ [.string y]) → K (a.put o.dst (.slice (some ⟨g, 0, none⟩) (n + 1) c)) w') :
    if Region.wanted o (yielded ops a.tmps) = true then Oper.wp Try.prog o a (w.alloc (.cells #[.string y] STR)) K Q else E := by
  obtain ⟨i, hi, hz, hz1, hz2⟩ := info_parts (show (Try.prog.info? STR).map (fun i => (i.zero, i.size, i.bytes)) = some (some (.string ⟨#[]⟩), 1, 16) from by kernel_rfl)
  refine step_append_lies _ hgd s x 35 ho W.heap.size STR i _ 1 16 Try.underlying35 hi hz hz1 hz2 rfl (by decide) v n xs hs (hacc.own.alloc _) ⟨w.heap.size, 0, none⟩ 1 1 [.string y] hx rfl (new_cells w [.string y] STR) (by simp [Value.oneCell']) (by decide) (by unfold maxLen; omega) (by omega) (by have := hacc.below.size; simp; omega) _ rfl ?_
  intro g c w' hown hgrow _ _
  refine h g c w' ⟨hown, (acc_alloc hacc _).below.grown hgrow (acc_alloc hacc _).below.size ?_⟩
  intro k hk
  exact (hacc.own.lt k hk).1
theorem Acc.drew {E : TypeId} {size : Nat} {W w : World} {v : Value} {n : Nat} {xs : List Value} (h : Acc E size W w v n xs) : Acc E size W w.drew v n xs := ⟨h.own, h.below.drew⟩
set_option maxHeartbeats 4000000 in
theorem cut_any (A : Option Addr) (c : Nat) (l : List ByteArray) (w : World) (hc : l.length ≤ c) (hcm : c ≤ maxLen) (hr : Rd w w.heap.size A (recsV l)) (hs : ∀ s ∈ l, s.size ≤ maxLen) :
    Calls Try.prog 22 #[.slice A l.length c] w fun e w' => ∃ v, e = .returned v ∧ Acc STR 1 w w' v (cutL l).length (recsV (cutL l)) := by
  have Hr := Lib.hid hr
  have Hs := Lib.hid hs
  clear hr hs
  have hn : l.length ≤ 9223372036854775807 := by unfold maxLen at hcm; omega
  go_enter Try.func22, Try.ntmps22
  go_wp2
  go_loopw [3, 4] (fun v i wr => ∃ k : Nat, k ≤ l.length ∧ k ≤ 20 ∧ i = .int .i64 (k : Int) ∧ Acc STR 1 w wr v k (recsV ((l.take k).map cutR))) (fun _ i _ => 20 - (intOf i).toNat)
  case atStart => exact ⟨0, by omega, by omega, rfl, acc_nil _ _ _⟩
  case round =>
    obtain ⟨k, hk, hk20, rfl, hacc⟩ := hrel
    by_cases hlt : k < l.length
    · have q0 : decide ((k : Int) < (l.length : Int)) = true := decide_eq_true (by omega)
      have q1 : (k : Int) < (l.length : Int) := by omega
      by_cases h20 : k < 20
      · have q2 : (k : Int) < 20 := by omega
        have k0 : (0 : Int) ≤ (k : Int) := by omega
        obtain ⟨b, off, rfl, hlb, hcell⟩ := rd_pos Hr.out (by rw [recsV, List.length_map]; omega)
        have c0 := (hacc.below.cell (p := ⟨b, off + k, none⟩) hlb).trans (hcell k (.string (l.getD k ByteArray.empty)) (by simp [recsV, hlt]))
        have hsz : (l.getD k ByteArray.empty).size ≤ 9223372036854775807 := by
          have := Hs.out _ (List.getElem_mem hlt); unfold maxLen at this; simp [hlt]; omega
        have hnext : recsV ((l.take k).map cutR) ++ [.string (cutR (l.getD k ByteArray.empty))] = recsV ((l.take (k + 1)).map cutR) := by
          rw [List.take_succ_eq_append_getElem hlt, List.map_append, recsV, recsV, List.map_append, show l.getD k ByteArray.empty = l[k] from by simp [hlt]]; rfl
        have Hnext := Lib.hid hnext
        obtain ⟨A1, c1, rfl⟩ := row_form hacc.own
        have Hacc := Lib.hid hacc
        clear hcell hnext hacc
        generalize l.getD k ByteArray.empty = x at *
        by_cases h40 : 40 < x.size
        · have q3 : (40 : Int) < (x.size : Int) := by omega
          have q4 : (40 : Int) ≤ (x.size : Int) := by omega
          have e : cutR x = x.extract 0 40 := by unfold cutR; rw [Nat.min_eq_right (by omega)]
          rw [e] at Hnext
          clear e
          go_wp2_with fail
          go_region_law (refine step_pushS rfl (.tmp 15) (.tmp 27) rfl (x.extract 0 40) (Hacc.out.drew) (by simp [Act.eval]) (by simp [Act.eval]) (by omega) ?_; intro g1 g2 w1 hacc1)
          all_goals
            go_wp2_with fail
            go_roundw
            case rel => exact ⟨k + 1, by omega, by omega, by go_num, Hnext.out ▸ hacc1⟩
            case measure => simp [intOf]; omega
        · have q3 : (x.size : Int) ≤ 40 := by omega
          have q4 : (0 : Int) ≤ (x.size : Int) := by omega
          have q5 : ((40 : Int) < (x.size : Int)) = False := eq_false (by omega)
          have e : cutR x = x := by unfold cutR; rw [Nat.min_eq_left (by omega)]; exact ByteArray.extract_zero_size
          rw [e] at Hnext
          clear e
          go_wp2_with fail
          go_region_law (refine step_pushS rfl (.tmp 15) (.tmp 27) rfl x (Hacc.out.drew) (by simp [Act.eval]) (by simp [Act.eval]) (by omega) ?_; intro g1 g2 w1 hacc1)
          all_goals
            go_wp2_with fail
            go_roundw
            case rel => exact ⟨k + 1, by omega, by omega, by go_num, Hnext.out ▸ hacc1⟩
            case measure => simp [intOf]; omega
      · obtain rfl : k = 20 := by omega
        have q2 : decide (((20 : Nat) : Int) < 20) = false := by decide
        have E : Hid (recsV (cutL l) = recsV ((l.take 20).map cutR)) := Lib.hid rfl
        have E2 : Hid ((cutL l).length = 20) := Lib.hid (by unfold cutL; rw [List.length_map, List.length_take]; omega)
        obtain ⟨A1, c1, rfl⟩ := row_form hacc.own
        go_wp2_with fail
        go_returns
        rw [E.out, E2.out]
        exact ⟨_, rfl, hacc⟩
    · obtain rfl : k = l.length := by omega
      have q0 : decide ((l.length : Int) < (l.length : Int)) = false := decide_eq_false (by omega)
      have e : recsV (cutL l) = recsV ((l.take l.length).map cutR) := by unfold cutL; rw [List.take_of_length_le hk20, List.take_length]
      have e2 : (cutL l).length = l.length := by unfold cutL; rw [List.length_map, List.length_take]; omega
      have E := Lib.hid e
      have E2 := Lib.hid e2
      obtain ⟨A1, c1, rfl⟩ := row_form hacc.own
      clear e e2
      go_wp2_with fail
      go_returns
      rw [E.out, E2.out]
      exact ⟨_, rfl, hacc⟩
end Go.Proofs.Ythfnpakddnnccaa
