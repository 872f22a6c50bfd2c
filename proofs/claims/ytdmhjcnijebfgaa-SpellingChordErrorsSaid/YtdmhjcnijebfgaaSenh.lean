/- Slices of pitches that a call grows; Enharmonics of package pitch: contracts. -/
import Derived.Test.YtdmhjcnijebfgaaSpitch
import Derived.Deep.RegionWith
namespace Go.Proofs.Ytdmhjcnijebfgaa
open Go.RowKit
set_option linter.unusedVariables false

abbrev PIT : TypeId := 35
abbrev INT : TypeId := 3
/-- The cells of a pitch, of pitches, of numbers. -/
def pitC (p : Pit) : List Value := [.int .i64 p.1, .int .i64 p.2.1, .int .i64 p.2.2]
def pitsC (L : List Pit) : List Value := L.flatMap pitC
abbrev ints (l : List Int) : List Value := l.map (Value.int .i64)
theorem pitsC_snoc (L : List Pit) (p : Pit) : pitsC (L ++ [p]) = pitsC L ++ pitC p := by simp [pitsC, List.flatMap_append]
theorem pitsC_cons (p : Pit) (L : List Pit) : pitsC (p :: L) = pitC p ++ pitsC L := rfl
theorem pitsC_len (L : List Pit) : (pitsC L).length = L.length * 3 := by
  induction L with
  | nil => rfl
  | cons p L ih => rw [pitsC_cons, List.length_append, ih, List.length_cons]; show 3 + _ = _; omega
theorem pitsC_at : ∀ (L : List Pit) (k : Nat), k < L.length → ((pitsC L)[k * 3]? = some (.int .i64 (L.getD k default).1) ∧ (pitsC L)[k * 3 + 1]? = some (.int .i64 (L.getD k default).2.1) ∧ (pitsC L)[k * 3 + 2]? = some (.int .i64 (L.getD k default).2.2)) := by
  intro L
  induction L with
  | nil => intro k h; exact absurd h (Nat.not_lt_zero _)
  | cons p L ih =>
    intro k h
    cases k with
    | zero => exact ⟨rfl, rfl, rfl⟩
    | succ k =>
      have h' : k < L.length := by simpa using h
      obtain ⟨h1, h2, h3⟩ := ih k h'
      rw [pitsC_cons]
      have e : ∀ j, (pitC p ++ pitsC L)[j + 3]? = (pitsC L)[j]? := fun j => by
        rw [List.getElem?_append_right (by show 3 ≤ j + 3; omega)]
        show (pitsC L)[j + 3 - 3]? = _
        rw [Nat.add_sub_cancel]
      rw [show (k + 1) * 3 = k * 3 + 3 from by omega, show k * 3 + 3 + 1 = (k * 3 + 1) + 3 from by omega, show k * 3 + 3 + 2 = (k * 3 + 2) + 3 from by omega, e, e, e]
      exact ⟨h1, h2, h3⟩
theorem ints_at {l : List Int} {k : Nat} (h : k < l.length) : (ints l)[k]? = some (.int .i64 (l.getD k 0)) := by simp [ints, h]

theorem infoInt : (Try.prog.info? 3).map (fun i => (i.zero, i.size, i.bytes)) = some (some (.int .i64 0), 1, 8) := by kernel_rfl
theorem infoPit : (Try.prog.info? 35).map (fun i => (i.zero, i.size, i.bytes)) = some (some (.agg #[.int .i64 0, .int .i64 0, .int .i64 0]), 3, 24) := by kernel_rfl
abbrev AccI (W w : World) (v : Value) (l : List Int) : Prop := Acc INT 1 W w v l.length (ints l)
abbrev AccP (W w : World) (v : Value) (L : List Pit) : Prop := Acc PIT 3 W w v L.length (pitsC L)
theorem accI_nil (W : World) : AccI W W (.slice none 0 0) [] := acc_nil _ _ _
theorem accP_nil (W : World) : AccP W W (.slice none 0 0) [] := acc_nil _ _ _
theorem wpList_pushI {ops : Array Oper} {rest : List Oper} {o : Oper} {a : Act} {Q : Exit → Act → World → Prop} (hgd : o.guard = none) (s x : Operand)
    (ho : o.op = .call { callee := .builtin .append, args := #[s, x], argTypes := #[22, 22] })
    {W w : World} {v : Value} {l : List Int} (y : Int) (hacc : AccI W w v l) (hs : a.eval s = v) (hx : a.eval x = .slice (some ⟨w.heap.size, 0, none⟩) 1 1) (hl : l.length ≤ 60000)
    (h : ∀ v' w', AccI W w' v' (l ++ [y]) → wpList Try.prog ops Q rest (a.put o.dst v') w') : wpList Try.prog ops Q (o :: rest) a (w.alloc (.cells #[.int .i64 y] 3)) :=
  wpList_push hgd s x 22 ho 3 1 8 (.int .i64 0) Try.underlying22 infoInt rfl (by decide) [.int .i64 y] hacc hs hx rfl (by simp [Value.oneCell']) (by omega) (by decide) fun v' w' h' => h v' w' (by
    have e : (l ++ [y]).length = l.length + 1 := by simp
    show Acc _ _ _ _ _ (l ++ [y]).length (ints (l ++ [y]))
    rw [e]; simpa using h')
theorem wpList_pushP {ops : Array Oper} {rest : List Oper} {o : Oper} {a : Act} {Q : Exit → Act → World → Prop} (hgd : o.guard = none) (s x : Operand)
    (ho : o.op = .call { callee := .builtin .append, args := #[s, x], argTypes := #[24, 24] })
    {W w : World} {v : Value} {L : List Pit} (c0 c1 c2 : Int) (hacc : AccP W w v L) (hs : a.eval s = v) (hx : a.eval x = .slice (some ⟨w.heap.size, 0, none⟩) 1 1) (hl : L.length ≤ 60000)
    (h : ∀ v' w', AccP W w' v' (L ++ [(c0, c1, c2)]) → wpList Try.prog ops Q rest (a.put o.dst v') w') : wpList Try.prog ops Q (o :: rest) a (w.alloc (.cells #[.int .i64 c0, .int .i64 c1, .int .i64 c2] 35)) :=
  wpList_push hgd s x 24 ho 35 3 24 _ Try.underlying24 infoPit rfl (by decide) [.int .i64 c0, .int .i64 c1, .int .i64 c2] hacc hs hx rfl (by simp [Value.oneCell']) (by omega) (by decide) fun v' w' h' => h v' w' (by
    have e : (L ++ [(c0, c1, c2)]).length = L.length + 1 := by simp
    show Acc _ _ _ _ _ (L ++ [(c0, c1, c2)]).length (pitsC (L ++ [(c0, c1, c2)]))
    rw [e, pitsC_snoc]; exact h')

theorem enharm_bad (n : Int) (w : World) (h : n < 0 ∨ 127 < n) :
    Calls Try.prog 41 #[.int .i64 n] w fun e w' => e = .returned (.tuple #[.slice none 0 0, .int .i64 2]) ∧ Below w.heap.size w w' := by
  rcases h with h | h
  · go_enter Try.func41, Try.ntmps41
    go_wp2_with fail
    go_returns
    exact ⟨rfl, by go_grown⟩
  · have h1 : ¬ n < 0 := by omega
    go_enter Try.func41, Try.ntmps41
    go_wp2_with fail
    go_returns
    exact ⟨rfl, by go_grown⟩

set_option maxHeartbeats 1000000 in
theorem enharm_ok (n : Int) (w : World) (h0 : 0 ≤ n) (h1 : n ≤ 127) :
    Calls Try.prog 41 #[.int .i64 n] w fun e w' => ∃ v, e = .returned (.tuple #[v, .int .i64 0]) ∧ AccP w w' v (enh n) := by
  go_enter Try.func41, Try.ntmps41
  go_wp2_with fail
  go_loopw [4, 5] (fun v i wr => ∃ k : Nat, k ≤ 5 ∧ i = .int .i64 (2 - (k : Int)) ∧ AccP w wr v (enhT n k)) (fun _ i _ => (intOf i + 3).toNat)
  case atStart => exact ⟨0, by omega, rfl, accP_nil _⟩
  case round =>
    obtain ⟨k, hk, rfl, hacc⟩ := hrel
    by_cases hlt : k < 5
    · have i1 : -2 ≤ 2 - (k : Int) := by omega
      have i2 : 2 - (k : Int) ≤ 2 := by omega
      have hlen : (enhT n k).length ≤ 35 := by have := enhT_len n k; omega
      have hdn0 : enhT n (k + 1) = enhT n k ++ enhS n (2 - (k : Int)) 7 := rfl
      generalize hT1 : enhT n (k + 1) = T1 at *
      have hdn := Lib.hid hdn0
      have HT1 := Lib.hid hT1
      clear hdn0 hT1
      have Hk := Lib.hid hk
      have Hlt := Lib.hid hlt
      have hb0 : -1000 ≤ n - (2 - (k : Int)) ∧ n - (2 - (k : Int)) ≤ 1000 := by omega
      have hq : -1 ≤ (n - (2 - (k : Int))) / 12 ∧ (n - (2 - (k : Int))) / 12 ≤ 20 ∧ 0 ≤ (n - (2 - (k : Int))) % 12 ∧ (n - (2 - (k : Int))) % 12 < 12 := by omega
      have ha : 2 - ((k + 1 : Nat) : Int) = 2 - (k : Int) - 1 := by omega
      have Ha := Lib.hid ha
      obtain ⟨a, ea⟩ : ∃ a, a = 2 - (k : Int) := ⟨_, rfl⟩
      rw [← ea] at i1 i2 hdn hb0 hq Ha ⊢
      have Ea := Lib.hid ea
      obtain ⟨b1, b2⟩ := hb0
      obtain ⟨q1, q2, q3, q4⟩ := hq
      generalize hdone : enhT n k = done at *
      clear hk ha ea hlt hdone
      go_wp2_with (first
        | (go_at_call 50; refine (floor12 _ _ b1 b2).mono ?_; rintro e w1 ⟨rfl, hb1⟩)
        | (go_at_call 51; refine (semitones_any _).mono ?_; rintro e w2 ⟨rfl, hb2⟩))
      have hacc2 := acc_below (acc_below hacc hb1) hb2
      clear hacc hb1 hb2
      go_loopw [4, 29] (fun v i wr => ∃ j : Nat, j ≤ 7 ∧ i = .int .i64 (j : Int) ∧ AccP w wr v (done ++ enhS n a j)) (fun _ i _ => (7 - intOf i).toNat)
      case atStart => exact ⟨0, by omega, rfl, by rw [enhS_zero, List.append_nil]; exact hacc2⟩
      case round =>
        clear hacc2
        obtain ⟨j, hj, rfl, hacc⟩ := hrel
        by_cases hj7 : j < 7
        · have j0 : (0 : Int) ≤ (j : Int) := by omega
          have j6 : (j : Int) ≤ 6 := by omega
          have hsl := enhS_len n a j
          have hll : (done ++ enhS n a j).length ≤ 60000 := by rw [List.length_append]; omega
          have hsi := fun w => semi_index (j : Int) j0 j6 w
          by_cases hs : semi (j : Int) = (n - a) % 12
          · have hs' : (semi (j : Int) == (n - a) % 12) = true := by rw [beq_iff_eq]; exact hs
            by_cases hok : okP (j : Int) a ((n - a) / 12 - 1)
            · have hhit := Lib.hid (enhS_hit hs hok)
              have Hok := Lib.hid hok
              clear hs hok hsl
              go_wp2_with (first
                | (go_at_call 40; refine (check_ok _ _ _ _ Hok.out).mono ?_; rintro e w1 ⟨rfl, hb⟩; obtain ⟨hc, hf⟩ := bcell hb; have hz := hb.size; simp only [World.size_alloc] at hz; have haccb := acc_below (acc_alloc hacc _) hb)
                | (at_builtin; refine wpList_pushP rfl _ _ rfl (j : Int) a ((n - a) / 12 - 1) haccb (by rfl) (by rfl) hll ?_; intro v' w3 hacc3))
              go_roundw
              case rel => exact ⟨j + 1, by omega, by go_num, by rw [hhit.out, ← List.append_assoc]; exact hacc3⟩
              case measure => simp [intOf]; omega
            · have hmiss := Lib.hid (enhS_miss (n := n) (a := a) (j := j) (.inr hok))
              have Hok := Lib.hid hok
              clear hs hok hsl
              go_wp2_with (first
                | (go_at_call 40; refine (check_bad _ _ _ _ Hok.out).mono ?_; rintro e w1 ⟨rfl, hb⟩; obtain ⟨hc, hf⟩ := bcell hb; have hz := hb.size; simp only [World.size_alloc] at hz; have haccb := acc_below (acc_alloc hacc _) hb))
              go_roundw
              case rel => exact ⟨j + 1, by omega, by go_num, by rw [hmiss.out]; exact haccb⟩
              case measure => simp [intOf]; omega
          · have hs' : (semi (j : Int) == (n - a) % 12) = false := by rw [beq_eq_false_iff_ne]; exact hs
            have hmiss := Lib.hid (enhS_miss (n := n) (a := a) (j := j) (.inl hs))
            clear hs hsl
            go_wp2_with fail
            go_roundw
            case rel => exact ⟨j + 1, by omega, by go_num, by rw [hmiss.out]; exact acc_alloc hacc _⟩
            case measure => simp [intOf]; omega
        · obtain rfl : j = 7 := by omega
          rw [← hdn.out] at hacc
          go_wp2_with fail
          go_roundw
          case rel => exact ⟨k + 1, Hlt.out, by rw [Ha.out], by rw [HT1.out]; exact hacc⟩
          case measure => simp [intOf]; omega
    · obtain rfl : k = 5 := by omega
      go_wp2_with fail
      go_returns
      exact ⟨_, rfl, hacc⟩
end Go.Proofs.Ytdmhjcnijebfgaa
