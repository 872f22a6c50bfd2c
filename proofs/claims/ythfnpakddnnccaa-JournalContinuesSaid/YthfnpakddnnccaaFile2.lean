/- NewFile, Bytes, Append, Sync of the journal's file: contracts. -/
import Derived.Test.YthfnpakddnnccaaFile
import Derived.Laws.BytesArg
namespace Go.Proofs.Ythfnpakddnnccaa
open Go.RowKit
set_option linter.unusedVariables false

theorem strCells_append (a b : ByteArray) : Lib.strCells (a ++ b) = Lib.strCells a ++ Lib.strCells b := by
  unfold Lib.strCells
  rw [ByteArray.data_append, Array.toList_append, List.map_append]
theorem row_str {base : Nat} {w : World} {v : Value} {s : ByteArray} (h : w.ownsRow base 5 1 v s.size (Lib.strCells s)) :
    (convert 25 9 v).run Try.prog w = .ok (.string s) w := by
  have hc := fun g hg => h.cells (g := g) hg
  rcases h.2 with ⟨rfl, hz⟩ | ⟨g, cap, cur, rfl, hg, hh, _⟩
  · rw [run_convert_bytes_nil w 25 5 (by kernel_rfl) (by kernel_rfl) 0 0 9 (by kernel_rfl)]
    have : s = ByteArray.empty := by
      apply ByteArray.ext
      apply Array.eq_empty_of_size_eq_zero
      exact hz
    rw [this]
  · have h3 := hc g rfl
    have := run_convert_bytes_back (P := Try.prog) w 25 9 5 ⟨g, 0, none⟩ cap s.data.toList (by kernel_rfl) (by kernel_rfl) (by kernel_rfl) (by
      intro j hj
      refine h3 j _ ?_
      unfold Lib.strCells
      rw [List.getElem?_map, List.getElem?_eq_getElem hj]
      rfl)
    exact this
theorem bytes_any (base b : Nat) (v : Value) (s : FS) (w : World) (h : FileAt base w b v s) :
    Calls Try.prog 41 #[.pointer (some ⟨b, 0, none⟩)] w fun e w' => e = .returned (.string s.bytes) ∧ w' = w := by
  obtain ⟨c0, c1, c2, c3, fr, hlt⟩ := h.cells
  have hv := row_str h.row
  obtain ⟨A, c, rfl, _, _, _⟩ := h.form
  go_enter Try.func41, Try.ntmps41
  go_wp2
  go_returns
  exact ⟨rfl, rfl⟩
theorem newfile_any (w : World) :
    Calls Try.prog 23 #[] w fun e w' => e = .returned (.pointer (some ⟨w.heap.size, 0, none⟩)) ∧ FileAt w.heap.size w' w.heap.size (.slice none 0 0) ⟨ByteArray.empty, 0, -1, false⟩ ∧ Below w.heap.size w w' ∧ w'.heap.size = w.heap.size + 1 := by
  go_enter Try.func23, Try.ntmps23
  go_wp2
  go_returns
  exact ⟨rfl, ⟨World.ownsRow_nil _ _ _ _, heap_alloc_last w _, Nat.le_refl _⟩, by go_grown, World.size_alloc _ _⟩

theorem fOp_0 {s : FS} (h : s.lim = 0) : fOp s = ({ s with down := true }, 36) := by unfold fOp; rw [if_pos h]
theorem fOp_1 {s : FS} (h : ¬ s.lim = 0) : fOp s = ({ s with lim := max (s.lim - 1) (-1) }, 0) := by unfold fOp; rw [if_neg h]
def fSync (s : FS) : FS × Int := if s.down = true then (s, 36) else if s.lim = 0 then ({ s with down := true }, 36) else ({ s with lim := max (s.lim - 1) (-1), syn := s.bytes.size }, 0)
def fAppend (t : ByteArray) (s : FS) : FS × Int := if s.down = true then (s, 36) else if s.lim = 0 then ({ s with bytes := s.bytes ++ t, down := true }, 36) else ({ s with bytes := s.bytes ++ t, lim := max (s.lim - 1) (-1) }, 0)

theorem fileSync_any (base b : Nat) (v : Value) (s : FS) (w : World) (h : FileAt base w b v s) (hl : -1 ≤ s.lim) (hu : s.lim < 9223372036854775808) :
    Calls Try.prog 50 #[.pointer (some ⟨b, 0, none⟩)] w fun e w' => e = .returned (.int .i64 (fSync s).2) ∧ FileAt base w' b v (fSync s).1 ∧ Touch b none w w' := by
  unfold fSync
  have cr := ready_any base b v s w h
  by_cases hd : s.down = true
  · rw [if_pos hd]
    rw [if_pos hd] at cr
    clear hd
    go_enter Try.func50, Try.ntmps50
    go_wp2_with fail
    refine cr.mono ?_
    rintro e w1 ⟨rfl, rfl⟩
    go_wp2
    go_returns
    exact ⟨rfl, h, Touch.refl _ _ _⟩
  rw [if_neg hd]
  rw [if_neg hd] at cr
  clear hd
  have co := fun w h => operate_any base b v s w h hl hu
  by_cases h0 : s.lim = 0
  · rw [if_pos h0]
    rw [fOp_0 h0] at co
    clear h0
    go_enter Try.func50, Try.ntmps50
    go_wp2_with fail
    refine cr.mono ?_
    rintro e w1 ⟨rfl, rfl⟩
    go_wp2_with fail
    refine (co w1 h).mono ?_
    rintro e w2 ⟨rfl, h2, t2⟩
    go_wp2
    go_returns
    exact ⟨rfl, h2, t2⟩
  · rw [if_neg h0]
    rw [fOp_1 h0] at co
    clear h0
    go_enter Try.func50, Try.ntmps50
    go_wp2_with fail
    refine cr.mono ?_
    rintro e w1 ⟨rfl, rfl⟩
    go_wp2_with fail
    refine (co w1 h).mono ?_
    rintro e w2 ⟨rfl, h2, t2⟩
    obtain ⟨c0, c1, c2, c3, fr, hlt⟩ := h2.cells
    have f1 := fr 1
    obtain ⟨A, c, rfl, _, _, _⟩ := h2.form
    go_wp2
    go_returns
    exact ⟨rfl, h2.set 1 _ rfl rfl, t2.setCell 1 _⟩

theorem infoByte : ∃ i, Try.prog.info? 5 = some i ∧ i.zero = some (.int .u8 0) ∧ i.size = 1 ∧ i.bytes = 1 := infoU8
set_option maxHeartbeats 2000000 in
theorem fileAppend_any (base b : Nat) (v : Value) (s : FS) (t : ByteArray) (w : World) (h : FileAt base w b v s) (hl : -1 ≤ s.lim) (hu : s.lim < 9223372036854775808) (hsz : s.bytes.size + t.size ≤ 16777216) (hbase : base ≤ w.heap.size) :
    Calls Try.prog 38 #[.pointer (some ⟨b, 0, none⟩), .string t] w fun e w' => e = .returned (.int .i64 (fAppend t s).2) ∧ ∃ v', FileAt base w' b v' (fAppend t s).1 ∧ Touch b v.ownBlock w w' := by
  unfold fAppend
  have cr := ready_any base b v s w h
  by_cases hd : s.down = true
  · rw [if_pos hd]
    rw [if_pos hd] at cr
    clear hd
    go_enter Try.func38, Try.ntmps38
    go_wp2_with fail
    refine cr.mono ?_
    rintro e w1 ⟨rfl, rfl⟩
    go_wp2
    go_returns
    exact ⟨rfl, _, h, Touch.refl _ _ _⟩
  rw [if_neg hd]
  rw [if_neg hd] at cr
  clear hd
  have step : ∀ v' w1, w1.ownsRow base 5 1 v' (s.bytes.size + t.size) (Lib.strCells s.bytes ++ Lib.strCells t) → w.grownBy w1 v.ownBlock →
      w1.cell? ⟨b, 0, none⟩ = some v ∧ w1.frozen? ⟨b, 0, none⟩ = false ∧ (∃ A c, v' = .slice A (s.bytes.size + t.size) c) ∧ FileAt base (w1.setCell ⟨b, 0, none⟩ v') b v' { s with bytes := s.bytes ++ t } ∧ Touch b v.ownBlock w (w1.setCell ⟨b, 0, none⟩ v') := by
    intro v' w1 hown hgrow
    obtain ⟨A, c, hv, _, _, hk⟩ := h.form
    have hb : w1.heap[b]? = w.heap[b]? := hgrow.block b (Array.getElem?_eq_some_iff.1 h.blk).1 (fun e => (hk b e.symm).2.2 rfl)
    have hblk := hb.trans h.blk
    have hne : ∀ k, v'.ownBlock = some k → k ≠ b := by
      intro k hk e
      subst e
      rcases hown.2 with ⟨rfl, _⟩ | ⟨g, cap, cur, rfl, _, hg, _⟩
      · simp [Value.ownBlock] at hk
      · have : g = k := by simpa [Value.ownBlock] using hk
        subst this
        rw [hblk] at hg
        injection hg with hg
        injection hg with _ ht _
        exact absurd ht (by decide)
    refine ⟨?_, ?_, ?_, ⟨?_, ?_, h.ge⟩, ?_⟩
    · exact (cell_of_row w1 b 0 (fileC v s) 81 (0, 0) hblk)
    · simp [World.frozen?, hblk]
    · rcases hown.2 with ⟨rfl, hz⟩ | ⟨g, cap, cur, rfl, _⟩
      · exact ⟨none, 0, by rw [hz]⟩
      · exact ⟨_, _, rfl⟩
    · have hs : (s.bytes ++ t).size = s.bytes.size + t.size := ByteArray.size_append
      show (w1.setCell _ _).ownsRow base 5 1 v' (s.bytes ++ t).size (Lib.strCells (s.bytes ++ t))
      rw [hs, strCells_append]
      exact row_touch hown fun k e hlt => setCell_far w1 b 0 k _ (hne k e)
    · rw [heap_setCell hblk 0 v']
      rfl
    · exact (Touch.ofGrown hgrow).setCell 0 _
  obtain ⟨c0, c1, c2, c3, fr, hlt⟩ := h.cells
  obtain ⟨i0, hi, hz0, hz1, hz2⟩ := infoByte
  have co := fun w v' h => operate_any base b v' { s with bytes := s.bytes ++ t } w h hl hu
  have hrow := h.row
  obtain ⟨A, c, hv, hc1, hc2, hk⟩ := h.form
  have nospace : ¬ (16777216 : Int) - (s.bytes.size : Int) < (t.size : Int) := by omega
  have Step := Lib.hid step
  have Row := Lib.hid hrow
  have Hk := Lib.hid hk
  clear step hrow hk
  subst hv
  by_cases h0 : s.lim = 0
  · rw [if_pos h0]
    rw [show fOp { s with bytes := s.bytes ++ t } = ({ s with bytes := s.bytes ++ t, down := true }, 36) from fOp_0 h0] at co
    clear h0
    go_enter Try.func38, Try.ntmps38
    go_wp2_with fail
    refine cr.mono ?_
    rintro e w1 ⟨rfl, rfl⟩
    go_wp2_with (at_builtin; refine Lib.wpList_append_own_string _ rfl _ _ 25 9 rfl base 5 i0 Try.underlying25 Try.underlying9 hi hz0 hz1 hz2 _ s.bytes.size (Lib.strCells s.bytes) rfl Row.out t rfl (by unfold maxLen; omega) (by omega) hbase ?_)
    intro v' w2 hown hgrow _
    obtain ⟨k0, f0, ⟨A', c', rfl⟩, hF, hT⟩ := Step.out v' w2 hown hgrow
    go_wp2_with fail
    refine (co _ _ hF).mono ?_
    rintro e w3 ⟨rfl, h3, t3⟩
    go_wp2
    go_returns
    exact ⟨rfl, _, h3, hT.trans t3.more⟩
  · rw [if_neg h0]
    rw [show fOp { s with bytes := s.bytes ++ t } = ({ s with bytes := s.bytes ++ t, lim := max (s.lim - 1) (-1) }, 0) from fOp_1 h0] at co
    clear h0
    go_enter Try.func38, Try.ntmps38
    go_wp2_with fail
    refine cr.mono ?_
    rintro e w1 ⟨rfl, rfl⟩
    go_wp2_with (at_builtin; refine Lib.wpList_append_own_string _ rfl _ _ 25 9 rfl base 5 i0 Try.underlying25 Try.underlying9 hi hz0 hz1 hz2 _ s.bytes.size (Lib.strCells s.bytes) rfl Row.out t rfl (by unfold maxLen; omega) (by omega) hbase ?_)
    intro v' w2 hown hgrow _
    obtain ⟨k0, f0, ⟨A', c', rfl⟩, hF, hT⟩ := Step.out v' w2 hown hgrow
    go_wp2_with fail
    refine (co _ _ hF).mono ?_
    rintro e w3 ⟨rfl, h3, t3⟩
    go_wp2
    go_returns
    exact ⟨rfl, _, h3, hT.trans t3.more⟩
end Go.Proofs.Ythfnpakddnnccaa
