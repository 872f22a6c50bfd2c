/- Clone and Equal of the journal's file: contracts. -/
import Derived.Test.YthfnpakddnnccaaFile4
import Derived.Deep.RegionHeld3
namespace Go.Proofs.Ythfnpakddnnccaa
open Go.RowKit
set_option linter.unusedVariables false

theorem bytes_ext (s t : ByteArray) (hs : s.size = t.size) (h : ∀ j, j < s.size → s.data.getD j 0 = t.data.getD j 0) : s = t := by
  apply ByteArray.ext
  apply Array.ext'
  apply List.ext_getElem?
  intro i
  have hs' : s.data.size = t.data.size := hs
  rw [Array.getElem?_toList, Array.getElem?_toList]
  by_cases hi : i < s.data.size
  · have := h i hi
    rw [Array.getD_eq_getD_getElem?, Array.getD_eq_getD_getElem?, Array.getElem?_eq_getElem hi, Array.getElem?_eq_getElem (by omega)] at this
    rw [Array.getElem?_eq_getElem hi, Array.getElem?_eq_getElem (by omega)]
    exact congrArg some this
  · rw [Array.getElem?_eq_none (by omega), Array.getElem?_eq_none (by omega)]
theorem strCells_at (s : ByteArray) (k : Nat) (h : k < s.size) : (Lib.strCells s)[k]? = some (.int .u8 ((s.data.getD k 0).toNat : Int)) := by
  unfold Lib.strCells
  have hj' : k < s.data.toList.length := h
  have h2 : k < s.data.size := h
  rw [List.getElem?_map, List.getElem?_eq_getElem hj', Array.getD_eq_getD_getElem?, Array.getElem?_eq_getElem h2]
  rfl

set_option maxHeartbeats 2000000 in
theorem same_bytes (A A' : Option Addr) (c c' : Nat) (s t : ByteArray) (w : World) (hr : Rd w w.heap.size A (Lib.strCells s)) (hr' : Rd w w.heap.size A' (Lib.strCells t)) (hs : s.size ≤ 16777216) (ht : t.size ≤ 16777216) (hc : s.size ≤ c) (hc' : t.size ≤ c') :
    Calls Try.prog 58 #[.slice A s.size c, .slice A' t.size c'] w fun e w' => e = .returned (.bool (decide (s = t))) ∧ Below w.heap.size w w' := by
  by_cases hsz : s.size = t.size
  · have Hr := Lib.hid hr
    have Hr' := Lib.hid hr'
    have Hsz := Lib.hid hsz
    have q0 : ((s.size : Int) != (t.size : Int)) = false := by rw [bne_eq_false_iff_eq]; omega
    clear hr hr' hsz
    go_enter Try.func58, Try.ntmps58
    go_wp2_with fail
    go_loopw [13] (fun i wr => ∃ k : Nat, k ≤ s.size ∧ i = .int .i64 (k : Int) ∧ Hid (∀ j, j < k → s.data.getD j 0 = t.data.getD j 0) ∧ Below w.heap.size w wr) (fun i _ => s.size - (intOf i).toNat)
    case atStart => exact ⟨0, by omega, rfl, Lib.hid (fun j hj => by omega), Below.refl _ _⟩
    case round =>
      obtain ⟨k, hk, rfl, hall, hb⟩ := hrel
      by_cases hlt : k < s.size
      · have hlt' : k < t.size := by have := Hsz.out; omega
        obtain ⟨b, off, rfl, hlb, hcell⟩ := rd_pos Hr.out (by rw [Lib.strCells_length]; exact Nat.lt_of_le_of_lt (Nat.zero_le _) hlt)
        obtain ⟨b', off', rfl, hlb', hcell'⟩ := rd_pos Hr'.out (by rw [Lib.strCells_length]; exact Nat.lt_of_le_of_lt (Nat.zero_le _) hlt')
        have c0 := (hb.cell (p := ⟨b, off + k, none⟩) hlb).trans (hcell k _ (strCells_at s k hlt))
        have c1 := (hb.cell (p := ⟨b', off' + k, none⟩) hlb').trans (hcell' k _ (strCells_at t k hlt'))
        have k0 : (0 : Int) ≤ (k : Int) := by omega
        clear hcell hcell'
        by_cases he : s.data.getD k 0 = t.data.getD k 0
        · have He := Lib.hid he
          rw [← he] at c1
          clear he
          generalize (s.data.getD k 0).toNat = x at *
          go_wp2_with fail
          go_quiet (fail)
          go_wp2_with fail
          go_roundw
          case rel => exact ⟨k + 1, by omega, by go_num, Lib.hid (fun j hj => by by_cases hj' : j < k; exact hall.out j hj'; obtain rfl : j = k := by omega
                                                                                 exact He.out), below_dn hb _⟩
          case measure => simp [intOf]; omega
        · have q1 : (((s.data.getD k 0).toNat : Int) != ((t.data.getD k 0).toNat : Int)) = true := by
            rw [bne_iff_ne]
            intro e
            exact he (UInt8.toNat_inj.1 (by omega))
          have hne := Lib.hid (decide_eq_false (fun e : s = t => he (by rw [e])))
          generalize (s.data.getD k 0).toNat = x at *
          generalize (t.data.getD k 0).toNat = y at *
          clear he
          go_wp2_with fail
          go_quiet (fail)
          go_wp2_with fail
          go_returns
          rw [hne.out]
          exact ⟨rfl, below_dn hb _⟩
      · obtain rfl : k = s.size := by omega
        have heq := Lib.hid (decide_eq_true (bytes_ext s t Hsz.out hall.out))
        go_wp2_with fail
        go_returns
        rw [heq.out]
        exact ⟨rfl, hb⟩
  · have q0 : ((s.size : Int) != (t.size : Int)) = true := by rw [bne_iff_ne]; omega
    have hne := Lib.hid (decide_eq_false (fun e : s = t => hsz (by rw [e])))
    clear hsz
    go_enter Try.func58, Try.ntmps58
    go_wp2_with fail
    go_returns
    rw [hne.out]
    exact ⟨rfl, Below.refl _ _⟩

def eqS (s s' : FS) : Bool := decide (s.bytes = s'.bytes ∧ s.syn = s'.syn ∧ s.down = s'.down)
set_option maxRecDepth 100000 in
set_option maxHeartbeats 4000000 in
theorem equal_any (base base' b b' : Nat) (v v' : Value) (s s' : FS) (w : World) (h : FileAt base w b v s) (h' : FileAt base' w b' v' s') (hs : s.bytes.size ≤ 16777216) (hs' : s'.bytes.size ≤ 16777216) :
    Calls Try.prog 37 #[.pointer (some ⟨b, 0, none⟩), .pointer (some ⟨b', 0, none⟩)] w fun e w' => e = .returned (.bool (eqS s s')) ∧ Below w.heap.size w w' := by
  obtain ⟨c0, c1, c2, c3, fr, hlt⟩ := h.cells
  obtain ⟨d0, d1, d2, d3, fr', hlt'⟩ := h'.cells
  have hB := fun (s1 : Later w.heap.size w) => s1.h
  obtain ⟨A, c, rfl, hc, _, _, hrd⟩ := h.reads
  obtain ⟨A', c', rfl, hc', _, _, hrd'⟩ := h'.reads
  have ce : ∀ s1 : Later w.heap.size w, Calls Try.prog 58 #[.slice A s.bytes.size c, .slice A' s'.bytes.size c'] s1.w fun e w' => e = .returned (.bool (decide (s.bytes = s'.bytes))) ∧ Below s1.w.heap.size s1.w w' := fun s1 =>
    same_bytes A A' c c' s.bytes s'.bytes s1.w (rd_below hrd s1.h) (rd_below hrd' s1.h) hs hs' hc hc'
  have l0 := later_cell (B := w.heap.size) c0 hlt
  have l1 := later_cell (B := w.heap.size) c1 hlt
  have l3 := later_cell (B := w.heap.size) c3 hlt
  have m0 := later_cell (B := w.heap.size) d0 hlt'
  have m1 := later_cell (B := w.heap.size) d1 hlt'
  have m3 := later_cell (B := w.heap.size) d3 hlt'
  unfold eqS
  clear c0 c1 c2 c3 d0 d1 d2 d3 fr fr' hrd hrd' hB h h' hc hc'
  by_cases e1 : s.bytes = s'.bytes
  · rw [decide_eq_true e1] at ce
    by_cases e2 : s.syn = s'.syn
    · have q2 : ((s.syn : Int) == (s'.syn : Int)) = true := by rw [beq_iff_eq]; omega
      have hfin := Lib.hid (show decide (s.bytes = s'.bytes ∧ s.syn = s'.syn ∧ s.down = s'.down) = (s.down == s'.down) from by
        cases hd : s.down <;> cases hd' : s'.down <;> simp [e1, e2])
      rw [hfin.out]
      clear e1 e2 hfin
      generalize s.down = x at *
      generalize s'.down = y at *
      generalize s.syn = n1 at *
      generalize s'.syn = n2 at *
      go_enter Try.func37, Try.ntmps37
      go_wp2_with fail
      refine wp_region_later (by kernel_rfl) (by kernel_rfl) ?_
      repeat (go_big_quiet_step ((go_at_call 58; exact later_calls (Nat.le_refl _) (ce _))))
      refine wpQuiet_nil ?_
      intro w3 hb3
      go_wp2_with fail
      go_returns
      exact ⟨rfl, hb3⟩
    · have q2 : ((s.syn : Int) == (s'.syn : Int)) = false := by rw [beq_eq_false_iff_ne]; omega
      have hfin := Lib.hid (show decide (s.bytes = s'.bytes ∧ s.syn = s'.syn ∧ s.down = s'.down) = false from decide_eq_false (fun hh => e2 hh.2.1))
      rw [hfin.out]
      clear e1 e2 hfin
      generalize s.syn = n1 at *
      generalize s'.syn = n2 at *
      go_enter Try.func37, Try.ntmps37
      go_wp2_with fail
      refine wp_region_later (by kernel_rfl) (by kernel_rfl) ?_
      repeat (go_big_quiet_step ((go_at_call 58; exact later_calls (Nat.le_refl _) (ce _))))
      refine wpQuiet_nil ?_
      intro w3 hb3
      go_wp2_with fail
      go_returns
      exact ⟨rfl, hb3⟩
  · rw [decide_eq_false e1] at ce
    have hfin := Lib.hid (show decide (s.bytes = s'.bytes ∧ s.syn = s'.syn ∧ s.down = s'.down) = false from decide_eq_false (fun hh => e1 hh.1))
    rw [hfin.out]
    clear e1 hfin
    go_enter Try.func37, Try.ntmps37
    go_wp2_with fail
    refine wp_region_later (by kernel_rfl) (by kernel_rfl) ?_
    repeat (go_big_quiet_step ((go_at_call 58; exact later_calls (Nat.le_refl _) (ce _))))
    refine wpQuiet_nil ?_
    intro w3 hb3
    go_wp2_with fail
    go_returns
    exact ⟨rfl, hb3⟩

set_option maxRecDepth 100000 in
set_option maxHeartbeats 4000000 in
theorem fileClone_any (base b : Nat) (v : Value) (s : FS) (w : World) (h : FileAt base w b v s) (hs : s.bytes.size ≤ 16777216) :
    Calls Try.prog 36 #[.pointer (some ⟨b, 0, none⟩)] w fun e w' => ∃ b' v', e = .returned (.pointer (some ⟨b', 0, none⟩)) ∧ FileAt w.heap.size w' b' v' s ∧ Below w.heap.size w w' := by
  obtain ⟨c0, c1, c2, c3, fr, hlt⟩ := h.cells
  have hh := Lib.hid h
  obtain ⟨A, c, rfl, hc, hcm, hnil, hrd⟩ := h.reads
  have cc : ∀ W, Below w.heap.size w W → Calls Try.prog 54 #[.slice A s.bytes.size c] W fun e w' => ∃ v', e = .returned v' ∧ w'.ownsRow w.heap.size 5 1 v' s.bytes.size (Lib.strCells s.bytes) ∧ Below W.heap.size W w' := fun W hW =>
    (clone_any A s.bytes.size c (Lib.strCells s.bytes) W (Lib.strCells_length _) hnil (rd_below hrd hW) (cells_one _) hs).mono fun e w' ⟨v', he, ho, hb⟩ => ⟨v', he, row_base ho hW.size, hb⟩
  clear hnil hrd h hc
  go_enter Try.func36, Try.ntmps36
  go_wp2_with fail
  go_region_held3 (fun w' => w'.cell? ⟨b, 0, none⟩ = some (.slice A s.bytes.size c) ∧ w'.cell? ⟨b, 1, none⟩ = some (.int .i64 (s.syn : Int)) ∧ w'.cell? ⟨b, 2, none⟩ = some (.int .i64 s.lim) ∧ w'.cell? ⟨b, 3, none⟩ = some (.bool s.down))
    (first | go_keep | exact ⟨(hcq _ _ hlt).trans c0, (hcq _ _ hlt).trans c1, (hcq _ _ hlt).trans c2, (hcq _ _ hlt).trans c3⟩)
    (first | (go_at_call 54; refine (cc _ (by first | exact Below.refl _ _ | exact (Below.refl _ _).drew)).mono ?_; rintro e w3 ⟨v', rfl, ho, hb⟩; obtain ⟨A', c', rfl⟩ := row_form ho; obtain ⟨hcq, hfq⟩ := bcell hb))
  have hb0 : Below w.heap.size w w3 := (Below.refl _ _).drew.trans hb
  go_wp2_with fail
  go_returns
  exact ⟨_, _, rfl, ⟨ho.alloc _, heap_alloc_last w3 _, hb0.size⟩, hb0.alloc hb0.size _⟩
end Go.Proofs.Ythfnpakddnnccaa
