/- The law's same and cut: contracts. -/
import Derived.Test.YthfnpakddnnccaaJall
import Derived.Deep.RegionLaw
namespace Go.Proofs.Ythfnpakddnnccaa
open Go.RowKit
set_option linter.unusedVariables false

theorem sstr_eq (a b : ByteArray) (h : a = b) : (a.toList == b.toList) = true := by rw [h, beq_self_eq_true]
theorem sstr_ne (a b : ByteArray) (h : a ≠ b) : (a.toList == b.toList) = false := by
  rw [beq_eq_false_iff_ne, ByteArray.toList_eq, ByteArray.toList_eq]
  intro e
  exact h (ByteArray.ext (Array.toList_inj.1 e))
theorem list_ext (l m : List ByteArray) (h : l.length = m.length) (hj : ∀ j, j < l.length → l.getD j ByteArray.empty = m.getD j ByteArray.empty) : l = m := by
  apply List.ext_getElem h
  intro j h1 h2
  have := hj j h1
  simpa [h1, h2] using this
set_option maxHeartbeats 2000000 in
theorem same_any (A A' : Option Addr) (c c' : Nat) (l m : List ByteArray) (w : World) (hr : Rd w w.heap.size A (recsV l)) (hr' : Rd w w.heap.size A' (recsV m)) (hl : l.length ≤ 65536) (hm : m.length ≤ 65536) :
    Calls Try.prog 33 #[.slice A l.length c, .slice A' m.length c'] w fun e w' => e = .returned (.bool (decide (l = m))) ∧ Below w.heap.size w w' := by
  by_cases hsz : l.length = m.length
  · have Hr := Lib.hid hr
    have Hr' := Lib.hid hr'
    have Hsz := Lib.hid hsz
    have q0 : ((l.length : Int) != (m.length : Int)) = false := by rw [bne_eq_false_iff_eq]; omega
    clear hr hr' hsz
    go_enter Try.func33, Try.ntmps33
    go_wp2_with fail
    go_loopw [5] (fun i wr => ∃ k : Nat, k ≤ l.length ∧ i = .int .i64 (k : Int) ∧ Hid (∀ j, j < k → l.getD j ByteArray.empty = m.getD j ByteArray.empty) ∧ Below w.heap.size w wr) (fun i _ => l.length - (intOf i).toNat)
    case atStart => exact ⟨0, by omega, rfl, Lib.hid (fun j hj => by omega), Below.refl _ _⟩
    case round =>
      obtain ⟨k, hk, rfl, hall, hb⟩ := hrel
      by_cases hlt : k < l.length
      · have hlt' : k < m.length := by have := Hsz.out; omega
        obtain ⟨b, off, rfl, hlb, hcell⟩ := rd_pos Hr.out (by rw [recsV, List.length_map]; exact Nat.lt_of_le_of_lt (Nat.zero_le _) hlt)
        obtain ⟨b', off', rfl, hlb', hcell'⟩ := rd_pos Hr'.out (by rw [recsV, List.length_map]; exact Nat.lt_of_le_of_lt (Nat.zero_le _) hlt')
        have c0 := (hb.cell (p := ⟨b, off + k, none⟩) hlb).trans (hcell k (.string (l.getD k ByteArray.empty)) (by simp [recsV, hlt]))
        have c1 := (hb.cell (p := ⟨b', off' + k, none⟩) hlb').trans (hcell' k (.string (m.getD k ByteArray.empty)) (by simp [recsV, hlt']))
        have k0 : (0 : Int) ≤ (k : Int) := by omega
        clear hcell hcell'
        by_cases he : l.getD k ByteArray.empty = m.getD k ByteArray.empty
        · have Hall : Hid (∀ j, j < k + 1 → l.getD j ByteArray.empty = m.getD j ByteArray.empty) := Lib.hid (fun j hj => by
            by_cases hj' : j < k
            · exact hall.out j hj'
            · obtain rfl : j = k := by omega
              exact he)
          have q1 := sstr_eq _ _ he
          clear he
          generalize l.getD k ByteArray.empty = x at *
          generalize m.getD k ByteArray.empty = y at *
          go_wp2_with fail
          go_quiet (fail)
          go_wp2_with fail
          go_roundw
          case rel => exact ⟨k + 1, by omega, by go_num, Hall, below_dn hb _⟩
          case measure => simp [intOf]; omega
        · have q1 := sstr_ne _ _ he
          have hne := Lib.hid (decide_eq_false (fun e : l = m => he (by rw [e])))
          clear he
          generalize l.getD k ByteArray.empty = x at *
          generalize m.getD k ByteArray.empty = y at *
          go_wp2_with fail
          go_quiet (fail)
          go_wp2_with fail
          go_returns
          rw [hne.out]
          exact ⟨rfl, below_dn hb _⟩
      · obtain rfl : k = l.length := by omega
        have heq := Lib.hid (decide_eq_true (list_ext l m Hsz.out hall.out))
        go_wp2_with fail
        go_returns
        rw [heq.out]
        exact ⟨rfl, hb⟩
  · have q0 : ((l.length : Int) != (m.length : Int)) = true := by rw [bne_iff_ne]; omega
    have hne := Lib.hid (decide_eq_false (fun e : l = m => hsz (by rw [e])))
    clear hsz
    go_enter Try.func33, Try.ntmps33
    go_wp2_with fail
    go_returns
    rw [hne.out]
    exact ⟨rfl, Below.refl _ _⟩
end Go.Proofs.Ythfnpakddnnccaa
