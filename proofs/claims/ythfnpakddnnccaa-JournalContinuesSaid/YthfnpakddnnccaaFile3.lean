/- slices.Clone of bytes, Truncate: contracts. -/
import Derived.Test.YthfnpakddnnccaaFile2
import Derived.Lib.SliceRun
namespace Go.Proofs.Ythfnpakddnnccaa
open Go.RowKit
set_option linter.unusedVariables false

theorem row_base {base base' : Nat} {e : TypeId} {size : Nat} {w : World} {v : Value} {n : Nat} {xs : List Value} (h : w.ownsRow base e size v n xs) (hb : base' ≤ base) : w.ownsRow base' e size v n xs := by
  refine ⟨h.1, ?_⟩
  rcases h.2 with h | ⟨g, cap, cur, hv, hg, r⟩
  · exact .inl h
  · exact .inr ⟨g, cap, cur, hv, Nat.le_trans hb hg, r⟩
theorem row_ne {base b : Nat} {w : World} {v v' : Value} {s : FS} {n : Nat} {xs : List Value} {fr : Nat × Nat} (hblk : w.heap[b]? = some (.cells (fileC v s) 81 fr)) (hown : w.ownsRow base 5 1 v' n xs) :
    ∀ k, v'.ownBlock = some k → k ≠ b := by
  intro k hk e
  subst e
  rcases hown.2 with ⟨rfl, _⟩ | ⟨g, cap, cur, rfl, _, hg, _⟩
  · simp [Value.ownBlock] at hk
  · have : g = k := by simpa [Value.ownBlock] using hk
    subst this
    rw [hblk] at hg
    injection hg with hg
    injection hg with _ ht _
    exact absurd ht (by decide)
theorem row_form {base : Nat} {e : TypeId} {size : Nat} {w : World} {v : Value} {n : Nat} {xs : List Value} (h : w.ownsRow base e size v n xs) : ∃ A c, v = .slice A n c := by
  rcases h.2 with ⟨rfl, hz⟩ | ⟨g, cap, cur, rfl, _⟩
  · exact ⟨none, 0, by rw [hz]⟩
  · exact ⟨_, _, rfl⟩
theorem FileAt.row0 {base : Nat} {w : World} {b : Nat} {v v' : Value} {s : FS} {t : ByteArray} (h : FileAt base w b v s) (hown : w.ownsRow base 5 1 v' t.size (Lib.strCells t)) :
    FileAt base (w.setCell ⟨b, 0, none⟩ v') b v' { s with bytes := t } :=
  ⟨row_touch hown fun k e hlt => setCell_far w b 0 k _ (row_ne h.blk hown k e), by rw [heap_setCell h.blk 0 v']; rfl, h.ge⟩
/-- The bytes of a file, read. -/
theorem FileAt.reads {base : Nat} {w : World} {b : Nat} {v : Value} {s : FS} (h : FileAt base w b v s) : ∃ A c, v = .slice A s.bytes.size c ∧ s.bytes.size ≤ c ∧ c ≤ maxLen ∧ (A = none → s.bytes.size = 0 ∧ c = 0) ∧ Rd w w.heap.size A (Lib.strCells s.bytes) := by
  have hc := fun g hg => h.row.cells (g := g) hg
  rcases h.row.2 with ⟨rfl, hz⟩ | ⟨g, cap, cur, rfl, hg, hh, hc1, hm, _⟩
  · refine ⟨none, 0, by rw [hz], by omega, Nat.zero_le _, fun _ => ⟨hz, rfl⟩, .inl ?_⟩
    exact List.eq_nil_of_length_eq_zero (by rw [Lib.strCells_length]; exact hz)
  · refine ⟨_, cap, rfl, hc1, hm, (fun e => by cases e), .inr ⟨g, 0, rfl, (Array.getElem?_eq_some_iff.1 hh).1, fun j u hu => ?_⟩⟩
    have := hc g rfl j u hu
    have hadd : (⟨g, 0, none⟩ : Addr).add j = ⟨g, 0 + j, none⟩ := by unfold Addr.add; split <;> simp_all
    rwa [hadd] at this
theorem FileAt.reads1 {base : Nat} {w : World} {b n c : Nat} {A : Option Addr} {s : FS} (h : FileAt base w b (.slice A n c) s) : n = s.bytes.size ∧ n ≤ c ∧ c ≤ maxLen ∧ (A = none → n = 0 ∧ c = 0) ∧ Rd w w.heap.size A (Lib.strCells s.bytes) := by
  obtain ⟨A', c', hv, h1, h2, h3, h4⟩ := h.reads
  cases hv
  exact ⟨rfl, h1, h2, h3, h4⟩
theorem rd_take {w : World} {B : Nat} {A : Option Addr} {xs : List Value} (h : Rd w B A xs) (n : Nat) : Rd w B A (xs.take n) := by
  rcases h with rfl | ⟨b, off, hA, hb, hc⟩
  · exact .inl (by simp)
  · refine .inr ⟨b, off, hA, hb, fun j u hu => hc j u ?_⟩
    rw [List.getElem?_take] at hu
    split at hu
    · exact hu
    · cases hu
theorem strCells_take (s : ByteArray) (n : Nat) (hn : n ≤ s.size) : (Lib.strCells s).take n = Lib.strCells (s.extract 0 n) ∧ (s.extract 0 n).size = n := by
  constructor
  · unfold Lib.strCells
    rw [← List.map_take, ByteArray.data_extract, Array.toList_extract, List.extract_eq_take_drop]
    simp
  · rw [ByteArray.size_extract]; omega

set_option maxHeartbeats 1000000 in
theorem clone_any (A : Option Addr) (n c : Nat) (xs : List Value) (w : World) (hl : xs.length = n) (hnil : A = none → n = 0 ∧ c = 0) (hr : Rd w w.heap.size A xs) (h1 : ∀ u ∈ xs, u.oneCell' = true) (hn : n ≤ 16777216) :
    Calls Try.prog 54 #[.slice A n c] w fun e w' => ∃ v', e = .returned v' ∧ w'.ownsRow w.heap.size 5 1 v' n xs ∧ Below w.heap.size w w' := by
  obtain ⟨i0, hi, hz0, hz1, hz2⟩ := infoByte
  have qT : ∀ w : World, (binOp .eql 25 (.slice A n c) (.slice none 0 0)).run Try.prog w = .ok (.bool A.isNone) w := fun w => Lib.run_eql_slice_nil w 25 5 A n c 0 0 (by kernel_rfl)
  cases A with
  | none =>
    obtain ⟨rfl, rfl⟩ := hnil rfl
    obtain rfl : xs = [] := List.eq_nil_of_length_eq_zero hl
    rw [Option.isNone_none] at qT
    go_enter Try.func54, Try.ntmps54
    go_wp2
    go_returns
    exact ⟨_, rfl, World.ownsRow_nil _ _ _ _, by go_grown⟩
  | some ad =>
    have hread : ∀ j u, xs[j]? = some u → w.cell? (ad.add j) = some u := by
      rcases hr with rfl | ⟨b, off, hA, hb, hc⟩
      · intro j u hu; simp at hu
      · intro j u hu
        cases hA
        have hadd : (⟨b, off, none⟩ : Addr).add j = ⟨b, off + j, none⟩ := by unfold Addr.add; split <;> simp_all
        rw [hadd]; exact hc j u hu
    have hrow := World.ownsRow_made (base := w.heap.size) (e := 5) (size := 1) w #[] 0 (Nat.le_refl _) (Nat.zero_le _) rfl
    have hnews : ∀ j u, xs[j]? = some u → (w.alloc (.cells #[] 5)).cell? (ad.add j) = some u := fun j u hu => by
      have := hread j u hu
      rw [← this]
      exact ((Below.refl w.heap.size w).alloc (Nat.le_refl _) _).cell (World.block_lt_of_cell? _ _ this)
    rw [Option.isNone_some] at qT
    have Row := Lib.hid hrow
    have News := Lib.hid hnews
    have H1 := Lib.hid h1
    have Hr := Lib.hid hread
    clear hrow hnews h1 hread hr hnil
    go_enter Try.func54, Try.ntmps54
    go_wp2_with (at_builtin; refine wpList_append_own _ rfl _ _ 25 rfl w.heap.size 5 i0 (.int .u8 0) 1 1 Try.underlying25 hi hz0 hz1 hz2 rfl (by decide) _ 0 [] rfl Row.out ad n c xs rfl (by omega) News.out H1.out (by unfold maxLen; omega) (by omega) (by simp) ?_)
    intro v' w2 hown hgrow _
    obtain ⟨A', c', rfl⟩ := row_form hown
    have hB : Below w.heap.size w w2 := ((Below.refl w.heap.size w).alloc (Nat.le_refl _) _).grown hgrow (by simp) (fun k hk => by cases hk; exact Nat.le_refl _)
    go_wp2
    go_returns
    exact ⟨_, rfl, by simpa using hown, hB⟩

theorem cells_one (s : ByteArray) : ∀ u ∈ Lib.strCells s, u.oneCell' = true := by
  intro u hu
  unfold Lib.strCells at hu
  obtain ⟨x, _, rfl⟩ := List.mem_map.1 hu
  rfl
def fTrunc (n : Int) (s : FS) : FS × Int :=
  if s.down = true then (s, 36) else if n < 0 ∨ (s.bytes.size : Int) < n then (s, 2) else if s.lim = 0 then ({ s with down := true }, 36)
  else ({ s with lim := max (s.lim - 1) (-1), bytes := s.bytes.extract 0 n.toNat, syn := min s.syn n.toNat }, 0)

set_option maxHeartbeats 2000000 in
theorem truncate_any (base b : Nat) (v : Value) (s : FS) (n : Int) (w : World) (h : FileAt base w b v s) (hl : -1 ≤ s.lim) (hu : s.lim < 9223372036854775808) (hsz : s.bytes.size ≤ 16777216) (hbase : base ≤ w.heap.size) :
    Calls Try.prog 49 #[.pointer (some ⟨b, 0, none⟩), .int .i64 n] w fun e w' => e = .returned (.int .i64 (fTrunc n s).2) ∧ ∃ v', FileAt base w' b v' (fTrunc n s).1 ∧ Touch b none w w' := by
  unfold fTrunc
  have cr := ready_any base b v s w h
  by_cases hd : s.down = true
  · rw [if_pos hd]
    rw [if_pos hd] at cr
    clear hd
    go_enter Try.func49, Try.ntmps49
    go_wp2_with fail
    refine cr.mono ?_
    rintro e w1 ⟨rfl, rfl⟩
    go_wp2
    go_returns
    exact ⟨rfl, _, h, Touch.refl _ _ _⟩
  rw [if_neg hd]
  rw [if_neg hd] at cr
  clear hd
  obtain ⟨A, c, hv, hc1, hc2, hnil, hrd⟩ := h.reads
  subst hv
  by_cases hn : n < 0 ∨ (s.bytes.size : Int) < n
  · rw [if_pos hn]
    obtain ⟨c0, c1, c2, c3, fr, hlt⟩ := h.cells
    rcases hn with hn | hn
    · go_enter Try.func49, Try.ntmps49
      go_wp2_with fail
      refine cr.mono ?_
      rintro e w1 ⟨rfl, rfl⟩
      go_wp2
      go_returns
      exact ⟨rfl, _, h, Touch.refl _ _ _⟩
    · have hn0 : ¬ n < 0 := by omega
      go_enter Try.func49, Try.ntmps49
      go_wp2_with fail
      refine cr.mono ?_
      rintro e w1 ⟨rfl, rfl⟩
      go_wp2
      go_returns
      exact ⟨rfl, _, h, Touch.refl _ _ _⟩
  rw [if_neg hn]
  obtain ⟨k, rfl⟩ : ∃ k : Nat, n = (k : Int) := ⟨n.toNat, by omega⟩
  have hk : k ≤ s.bytes.size := by omega
  have n0 : ¬ (k : Int) < 0 := by omega
  have n1 : ¬ (s.bytes.size : Int) < (k : Int) := by omega
  rw [Int.toNat_natCast]
  have co := fun w h => operate_any base b (.slice A s.bytes.size c) s w h hl hu
  have Cs := Lib.hid h.cells
  by_cases h0 : s.lim = 0
  · rw [if_pos h0]
    rw [fOp_0 h0] at co
    clear h0 hn
    obtain ⟨c0, c1, c2, c3, fr, hlt⟩ := Cs.out
    go_enter Try.func49, Try.ntmps49
    go_wp2_with fail
    refine cr.mono ?_
    rintro e w1 ⟨rfl, rfl⟩
    go_wp2_with fail
    refine (co w1 h).mono ?_
    rintro e w2 ⟨rfl, h2, t2⟩
    go_wp2
    go_returns
    exact ⟨rfl, _, h2, t2⟩
  · rw [if_neg h0]
    rw [fOp_1 h0] at co
    clear h0 hn
    obtain ⟨c0, c1, c2, c3, fr, hlt⟩ := Cs.out
    have hkc : (k : Int) ≤ (c : Int) := by omega
    go_enter Try.func49, Try.ntmps49
    go_wp2_with fail
    refine cr.mono ?_
    rintro e w1 ⟨rfl, rfl⟩
    go_wp2_with fail
    refine (co w1 h).mono ?_
    rintro e w2 ⟨rfl, h2, t2⟩
    clear c0 c1 c2 c3 fr hlt
    obtain ⟨c0, c1, c2, c3, fr, hlt⟩ := h2.cells
    obtain ⟨_, _, _, hnil2, hrd2⟩ := h2.reads1
    have htk := strCells_take s.bytes k hk
    have h16 : k ≤ 16777216 := by omega
    go_wp2_with fail
    refine (clone_any A k c ((Lib.strCells s.bytes).take k) w2 (by rw [List.length_take, Lib.strCells_length]; omega) (fun e => by have := hnil2 e; omega) (rd_take hrd2 k) (fun u hu => cells_one _ u (List.mem_of_mem_take hu)) h16).mono ?_
    rintro e w3 ⟨v', rfl, hown, B3⟩
    have h3 := h2.below B3
    have hown2 : w3.ownsRow base 5 1 v' (s.bytes.extract 0 k).size (Lib.strCells (s.bytes.extract 0 k)) := by
      rw [htk.2, ← htk.1]
      exact row_base hown (Nat.le_trans hbase t2.size)
    have h4 := h3.row0 hown2
    have hne := row_ne h3.blk hown
    have t4 : Touch b none w1 (w3.setCell ⟨b, 0, none⟩ v') := (t2.trans (Touch.ofBelow B3)).setCell 0 _
    clear c0 c1 c2 c3 fr hlt
    obtain ⟨c0, c1, c2, c3, fr, hlt⟩ := h3.cells
    have f0 := fr 0
    have f1 := fr 1
    obtain ⟨A', c', rfl⟩ := row_form hown
    have H4 := Lib.hid h4
    have T4 := Lib.hid t4
    clear h4 t4 c2 c3 hnil hrd hnil2 hrd2 hown hown2 B3 h3 fr
    by_cases hm : s.syn ≤ k
    · have hmn := Lib.hid (show min s.syn k = s.syn from by omega)
      have hm' : ¬ (k : Int) < (s.syn : Int) := by omega
      go_wp2_with fail
      go_returns
      rw [hmn.out]
      exact ⟨rfl, _, H4.out.set 1 _ rfl rfl, T4.out.setCell 1 _⟩
    · have hmn := Lib.hid (show min s.syn k = k from by omega)
      have hm' : (k : Int) < (s.syn : Int) := by omega
      go_wp2_with fail
      go_returns
      rw [hmn.out]
      exact ⟨rfl, _, H4.out.set 1 _ rfl rfl, T4.out.setCell 1 _⟩
end Go.Proofs.Ythfnpakddnnccaa
