/- The journal's iterator over records: what comes, in order; its contract. -/
import Derived.Test.YthfnpakddnnccaaCode
import Derived.RangeFuncNested
import Derived.RangeFuncBound
import Derived.RangeFuncCalls
import Derived.RangeFuncLeaves
import Derived.RangeFuncBox
import Derived.Shelf.Abstract
import Derived.Shelf.RegionOpen
import Derived.OwnWalkIn
import Derived.TacticsInMore
import Derived.LoopNIn
import Derived.LoopIn
namespace Go.Proofs.Ythfnpakddnnccaa
open Go.RowKit Go.Shelf
set_option linter.unusedVariables false

attribute [local go_sem] Oper.semAt_some

/-- The records from offset a on, the first one with number n, with the offsets behind them. -/
def scanFrom (s : ByteArray) : Nat → Nat → Nat → List (Nat × ByteArray)
  | 0, _, _ => []
  | fuel + 1, a, n => if a < s.size then (if (dec (s.extract a s.size) n).2.2 = 0 then (a + (dec (s.extract a s.size) n).2.1, (dec (s.extract a s.size) n).1) :: scanFrom s fuel (a + (dec (s.extract a s.size) n).2.1) (n + 1) else []) else []
def scanL (s : ByteArray) : List (Nat × ByteArray) := scanFrom s s.size 0 0

theorem dec_size (s : ByteArray) (n : Int) (h : (dec s n).2.2 = 0) : 12 ≤ (dec s n).2.1 ∧ (dec s n).2.1 ≤ s.size := by
  unfold dec at *
  by_cases h1 : s.size < 12
  · rw [if_pos h1] at h; exact absurd h (by decide)
  rw [if_neg h1] at *
  by_cases h2 : 65536 < wordAt s 0
  · rw [if_pos h2] at h; exact absurd h (by decide)
  rw [if_neg h2] at *
  by_cases h3 : (wordAt s 4 : Int) ≠ n
  · rw [if_pos h3] at h; exact absurd h (by decide)
  rw [if_neg h3] at *
  by_cases h4 : s.size < 12 + wordAt s 0
  · rw [if_pos h4] at h; exact absurd h (by decide)
  rw [if_neg h4] at *
  by_cases h5 : crc (s.extract 0 8 ++ s.extract 12 (12 + wordAt s 0)) ≠ wordAt s 8
  · rw [if_pos h5] at h; exact absurd h (by decide)
  rw [if_neg h5]
  show 12 ≤ 12 + wordAt s 0 ∧ 12 + wordAt s 0 ≤ s.size
  omega
theorem dec_bad_size (s : ByteArray) (n : Int) (h : (dec s n).2.2 ≠ 0) : (dec s n).2.1 = 0 := by
  unfold dec at *
  split <;> first | rfl | skip
  split <;> first | rfl | skip
  split <;> first | rfl | skip
  split <;> first | rfl | skip
  split <;> first | rfl | skip
  rename_i h1 h2 h3 h4 h5
  rw [if_neg h1, if_neg h2, if_neg h3, if_neg h4, if_neg h5] at h
  exact absurd rfl h

theorem grown_of_below {w w' : World} (h : Below w.heap.size w w') : w.grownBy w' none := ⟨h.os, h.tape, h.output, h.size, fun k hk _ => h.block k hk⟩
theorem abides_below {β : Type} {B : Nat} {J : β → World → Prop} (hJ : AbidesFrom B J) {s : β} {w w' : World} (h : J s w) (hb : Below w.heap.size w w') : J s w' := hJ s w w' none h (grown_of_below hb) (fun r e => by cases e)
theorem boxed_below {w w' : World} {B : Nat} {t : TypeId} {v : Value} (h : Boxed w B t v) (hb : Below w.heap.size w w') : Boxed w' B t v := (hb.block B h.lt).trans h

def encsR (x : Nat × ByteArray) : Array Value := #[.int .i64 (x.1 : Int), .string x.2]
def keepsBox (Bs : Nat) (s : ByteArray) (W W' : World) : Prop := Boxed W Bs 9 (.string s) → Boxed W' Bs 9 (.string s)

set_option maxRecDepth 100000 in
set_option maxHeartbeats 4000000 in
theorem found1_in (n : Nat) (hn : 1 ≤ n) (l Bs : Nat) (s : ByteArray) (hs : s.size ≤ maxLen) (J Jx : List (Nat × ByteArray) → World → Prop) (B0 : Nat)
    (hJ : AbidesFrom B0 J)
    (hY : ∀ pre x W, J pre W → pre.length < (scanL s).length → YieldAt Fence.wide (n - 1) Try.prog l (encsR x) W fun e W' =>
      (e = .returned (.bool true) ∧ J (pre ++ [x]) W' ∧ keepsBox Bs s W W') ∨ (e = .returned (.bool false) ∧ Jx (pre ++ [x]) W'))
    (W : World) (hB : Boxed W Bs 9 (.string s)) (h0 : J [] W) :
    CallsIn Fence.wide n Try.prog 60 #[.func (.yield l) #[] #[], .pointer (some ⟨Bs, 0, none⟩)] W fun e W' => (∃ v, e = .returned v) ∧
      ((∃ ys, ys = scanL s ∧ J ys W') ∨ (∃ pre, pre <+: scanL s ∧ Jx pre W')) := by
  unfold maxLen at hs
  refine callsIn_of_wp Try.func60 rfl trivial ?_ rfl
  simp only [Try.ntmps60, List.size_toArray, List.length_cons, List.length_nil, Nat.reduceAdd, Nat.reduceSub, Array.replicate_succ, Array.replicate_zero, List.push_toArray, List.append_toArray, List.nil_append, List.cons_append]
  gi_wp2
  gi_loopw [3, 4] (fun u v wr => ∃ (a k fuel : Nat) (pre : List (Nat × ByteArray)), u = .int .i64 (a : Int) ∧ v = .int .i64 (k : Int) ∧ a ≤ s.size ∧ k ≤ a ∧ pre.length = k ∧ scanL s = pre ++ scanFrom s fuel a k ∧ s.size ≤ a + fuel ∧ J pre wr ∧ Boxed wr Bs 9 (.string s))
    (fun u _ _ => s.size - (intOf u).toNat)
  case atStart => exact ⟨0, 0, s.size, [], rfl, rfl, by omega, by omega, rfl, rfl, by omega, h0, hB⟩
  case round =>
    obtain ⟨a, k, fuel, pre, rfl, rfl, ha, hka, hlen, hscan, hfuel, hJs, hBs⟩ := hrel
    have hc := hBs.cell
    have Hlen := Lib.hid hlen
    have Hscan := Lib.hid hscan
    clear hlen hscan hB h0
    by_cases hlt : a < s.size
    · have sf := str_from s a ha
      have hx : (s.extract a s.size).size = s.size - a := size_from s a
      have HX := Lib.hid hx
      clear hx
      generalize hX : s.extract a s.size = X at *
      have HXe := Lib.hid hX
      clear hX
      have cd := fun w => decode_any X (k : Int) w (by rw [HX.out]; unfold maxLen; omega)
      have ds := dec_size X (k : Int)
      have hfs := Lib.hid (show ∀ f, scanFrom s (f + 1) a k = if (dec X (k : Int)).2.2 = 0 then (a + (dec X (k : Int)).2.1, (dec X (k : Int)).1) :: scanFrom s f (a + (dec X (k : Int)).2.1) (k + 1) else [] from fun f => by rw [scanFrom, if_pos hlt, HXe.out])
      generalize dec X (k : Int) = d at *
      obtain ⟨r, m, e⟩ := d
      unfold decV at cd
      dsimp only at cd ds hfs
      by_cases hd : e = 0
      · subst hd
        obtain ⟨hm1, hm2⟩ := ds rfl
        rw [HX.out] at hm2
        obtain ⟨f, rfl⟩ : ∃ f, fuel = f + 1 := ⟨fuel - 1, by omega⟩
        have hnext : scanL s = (pre ++ [(a + m, r)]) ++ scanFrom s f (a + m) (k + 1) := by rw [Hscan.out, hfs.out, if_pos rfl, List.append_assoc]; rfl
        have hll : pre.length < (scanL s).length := by rw [hnext]; simp
        have Hnext := Lib.hid hnext
        clear hnext ds hfs
        have Y : ∀ w1, Below wr.heap.size wr w1 → YieldAt Fence.wide (n - 1) Try.prog l #[.int .i64 ((a : Int) + (m : Int)), .string r] w1 fun e W' => (e = .returned (.bool true) ∧ J (pre ++ [(a + m, r)]) W' ∧ keepsBox Bs s w1 W') ∨ (e = .returned (.bool false) ∧ Jx (pre ++ [(a + m, r)]) W') := by
          intro w1 hb1
          have := hY pre (a + m, r) w1 (abides_below hJ hJs hb1) hll
          unfold encsR at this
          rw [show (((a + m, r) : Nat × ByteArray).1 : Int) = (a : Int) + (m : Int) from by show ((a + m : Nat) : Int) = _; omega] at this
          exact this
        gi_wp2_with (refine ⟨trivial, ?_⟩; gi_at_call 18; refine (callsIn_wide.2 (cd _)).mono ?_; rintro e w1 ⟨rfl, hb1⟩; obtain ⟨fn, tmps, assign, body, hy, hR⟩ := Y w1 hb1)
        have hB1 := boxed_below hBs hb1
        refine hR.mono ?_
        rintro e W3 (⟨rfl, hJ3, hk3⟩ | ⟨rfl, hJx3⟩)
        · have hc3 := (hk3 hB1).cell
          gi_wp2
          go_roundw
          case rel => exact ⟨a + m, k + 1, f, pre ++ [(a + m, r)], by go_num, by go_num, by omega, by omega, by rw [List.length_append, Hlen.out]; rfl, Hnext.out, by omega, hJ3, hk3 hB1⟩
          case measure => simp [intOf]; omega
        · gi_wp2
          refine bodyPost_ret (results_none rfl _ _ _) rfl ?_
          exact ⟨⟨_, rfl⟩, .inr ⟨_, ⟨_, Hnext.out.symm⟩, hJx3⟩⟩
      · have hd' : (e == 0) = false := by simpa using hd
        have hdn : (e != 0) = true := by simpa using hd
        have hend : scanL s = pre := by
          rw [Hscan.out]
          obtain ⟨f, rfl⟩ : ∃ f, fuel = f + 1 := ⟨fuel - 1, by omega⟩
          rw [hfs.out, if_neg hd, List.append_nil]
        have Hend := Lib.hid hend
        clear hend ds hfs hd
        gi_wp2_with (refine ⟨trivial, ?_⟩; gi_at_call 18; refine (callsIn_wide.2 (cd _)).mono ?_; rintro e w1 ⟨rfl, hb1⟩)
        refine bodyPost_ret (results_none rfl _ _ _) rfl ?_
        exact ⟨⟨_, rfl⟩, .inl ⟨_, Hend.out.symm, abides_below hJ hJs hb1⟩⟩
    · have hend : scanL s = pre := by
        rw [Hscan.out]
        cases fuel with
        | zero => rw [scanFrom, List.append_nil]
        | succ f => rw [scanFrom, if_neg hlt, List.append_nil]
      have Hend := Lib.hid hend
      clear hend
      gi_wp2
      go_end0
      exact ⟨⟨_, rfl⟩, .inl ⟨_, Hend.out.symm, hJs⟩⟩

theorem found_stops (n : Nat) (hn : 1 ≤ n) (Bs : Nat) (s : ByteArray) (hs : s.size ≤ maxLen) (w : World) (hB : Boxed w Bs 9 (.string s)) :
    SeqStopsK Fence.wide n Try.prog 60 #[.pointer (some ⟨Bs, 0, none⟩)] encsR (keepsBox Bs s) (fun ys => ys = scanL s) (fun pre => pre <+: scanL s) (scanL s).length w := fun l J Jx W hW hJ _ hY h0 =>
  found1_in n hn l Bs s hs J Jx W.heap.size hJ hY W (boxed_below hB hW) h0
theorem found_any (s : ByteArray) (w : World) : Calls Try.prog 47 #[.string s] w fun e w' => e = .returned (.func (.func 60) #[] #[.pointer (some ⟨w.heap.size, 0, none⟩)]) ∧ w' = w.alloc (.cells #[.string s] 9) := by
  go_enter Try.func47, Try.ntmps47
  go_wp2
  go_returns
  exact ⟨rfl, rfl⟩
end Go.Proofs.Ythfnpakddnnccaa
