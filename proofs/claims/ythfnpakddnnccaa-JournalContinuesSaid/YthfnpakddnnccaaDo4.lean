/- The law's do: kind 3 with power. -/
import Derived.Test.YthfnpakddnnccaaDo3
import Derived.Deep.RegionWith
namespace Go.Proofs.Ythfnpakddnnccaa
open Go.RowKit
set_option linter.unusedVariables false

set_option maxRecDepth 100000 in
set_option maxHeartbeats 4000000 in
theorem do_3bad (b : Nat) (s : FS) (kd : Int) (t : ByteArray) (n : Int) (d : Nat) (w : World) (h : ModelAt w b s) (k0 : 0 ≤ kd) (k1 : kd < 256) (hk : kd % 7 = 3) (hd : s.down = false) (hsz : s.bytes.size ≤ 16777216) (hn : n < 0 ∨ (s.bytes.size : Int) < n) :
    Calls Try.prog 57 #[.pointer (some ⟨b, 0, none⟩), opV kd t n d] w fun e w' => e = .returned (.int .i64 2) ∧ ModelAt w' b s ∧ Touch b none w w' := by
  unfold opV
  have hm := tmod_cases k0 hk
  have hB : Below w.heap.size w (w.alloc (.cells #[.int .u8 kd, .string t, .int .i64 n, .int .u8 (d : Int)] 88)) := (Below.refl _ _).alloc (Nat.le_refl _) _
  have h1 := h.below hB
  have t1 : Touch b none w _ := Touch.ofBelow hB
  obtain ⟨c0, c1, c2, c3, fr, hlt⟩ := h1.cells
  have H1 := Lib.hid h1
  have T1 := Lib.hid t1
  rw [hd] at c3
  clear fr h1 t1 hB hd hk
  rcases hn with hn | hn
  · go_enter Try.func57, Try.ntmps57
    go_wp2_with fail
    go_quiet (fail)
    go_wp2_with fail
    go_returns
    exact ⟨rfl, H1.out.below (below_dn (Below.refl _ _) _), T1.out.trans (Touch.ofBelow (below_dn (Below.refl _ _) _))⟩
  · have n0 : ¬ n < 0 := by omega
    go_enter Try.func57, Try.ntmps57
    go_wp2_with fail
    go_quiet (fail)
    go_wp2_with fail
    go_returns
    exact ⟨rfl, H1.out.below (below_dn (Below.refl _ _) _), T1.out.trans (Touch.ofBelow (below_dn (Below.refl _ _) _))⟩
set_option maxRecDepth 100000 in
set_option maxHeartbeats 4000000 in
theorem do_3a (b : Nat) (s : FS) (kd : Int) (t : ByteArray) (n : Nat) (d : Nat) (w : World) (h : ModelAt w b s) (k0 : 0 ≤ kd) (k1 : kd < 256) (hk : kd % 7 = 3) (hd : s.down = false) (hl : -1 ≤ s.lim) (hu : s.lim < 9223372036854775808) (hsz : s.bytes.size ≤ 16777216) (hn : n ≤ s.bytes.size) (h0 : s.lim = 0) :
    Calls Try.prog 57 #[.pointer (some ⟨b, 0, none⟩), opV kd t (n : Int) d] w fun e w' => e = .returned (.int .i64 36) ∧ ModelAt w' b { s with down := true } ∧ Touch b none w w' := by
  unfold opV
  have hm := tmod_cases k0 hk
  have hB : Below w.heap.size w (w.alloc (.cells #[.int .u8 kd, .string t, .int .i64 (n : Int), .int .u8 (d : Int)] 88)) := (Below.refl _ _).alloc (Nat.le_refl _) _
  have h1 := h.below hB
  have t1 : Touch b none w _ := Touch.ofBelow hB
  obtain ⟨c0, c1, c2, c3, fr, hlt⟩ := h1.cells
  have hlw : b < w.heap.size := h.cells.2.2.2.2.2
  have H1 := Lib.hid h1
  have T1 := Lib.hid t1
  have cs : ∀ nq, Calls Try.prog 61 #[.pointer (some ⟨b, 0, none⟩)] ((w.alloc (.cells #[.int .u8 kd, .string t, .int .i64 (n : Int), .int .u8 (d : Int)] 88)).drewN nq) fun e w' => e = .returned (.bool (decide (s.lim = 0))) ∧ ModelAt w' b (fOp s).1 ∧ Touch b none (w.alloc (.cells #[.int .u8 kd, .string t, .int .i64 (n : Int), .int .u8 (d : Int)] 88)) w' := fun nq =>
    (step_any b s _ (h1.below (below_dn (Below.refl _ _) nq)) hl hu).mono fun e w' hh => ⟨hh.1, hh.2.1, (Touch.ofBelow (below_dn (Below.refl _ _) nq)).trans hh.2.2⟩
  rw [hd] at c3
  have n0 : ¬ (n : Int) < 0 := by omega
  have n1 : ¬ (s.bytes.size : Int) < (n : Int) := by omega
  rw [fOp_0 h0, decide_eq_true h0] at cs
  clear fr h1 t1 hB hd hk h0 hl hu h
  go_enter Try.func57, Try.ntmps57
  go_wp2_with fail
  go_quiet (fail)
  go_wp2_with fail
  refine (cs _).mono ?_
  rintro e w2 ⟨rfl, h2, t2⟩
  go_wp2_with fail
  go_returns
  exact ⟨rfl, h2, T1.out.trans t2⟩
set_option maxRecDepth 100000 in
set_option maxHeartbeats 4000000 in
theorem do_3b (b : Nat) (s : FS) (kd : Int) (t : ByteArray) (n : Nat) (d : Nat) (w : World) (h : ModelAt w b s) (k0 : 0 ≤ kd) (k1 : kd < 256) (hk : kd % 7 = 3) (hd : s.down = false) (hl : -1 ≤ s.lim) (hu : s.lim < 9223372036854775808) (hsz : s.bytes.size ≤ 16777216) (hn : n ≤ s.bytes.size) (h0 : ¬ s.lim = 0) :
    Calls Try.prog 57 #[.pointer (some ⟨b, 0, none⟩), opV kd t (n : Int) d] w fun e w' => e = .returned (.int .i64 0) ∧ ModelAt w' b { s with lim := max (s.lim - 1) (-1), bytes := s.bytes.extract 0 n, syn := min s.syn n } ∧ Touch b none w w' := by
  unfold opV
  have hm := tmod_cases k0 hk
  have hB : Below w.heap.size w (w.alloc (.cells #[.int .u8 kd, .string t, .int .i64 (n : Int), .int .u8 (d : Int)] 88)) := (Below.refl _ _).alloc (Nat.le_refl _) _
  have h1 := h.below hB
  have t1 : Touch b none w _ := Touch.ofBelow hB
  obtain ⟨c0, c1, c2, c3, fr, hlt⟩ := h1.cells
  have hlw : b < w.heap.size := h.cells.2.2.2.2.2
  have H1 := Lib.hid h1
  have T1 := Lib.hid t1
  have O1 := Lib.hid (fun (w2 : World) => op_kept (w := w) (w2 := w2) (x := .int .u8 kd) (y := .string t) (z := .int .i64 (n : Int)) (u := .int .u8 (d : Int)) (T := 88) (b := b) hlw)
  have cs : ∀ nq, Calls Try.prog 61 #[.pointer (some ⟨b, 0, none⟩)] ((w.alloc (.cells #[.int .u8 kd, .string t, .int .i64 (n : Int), .int .u8 (d : Int)] 88)).drewN nq) fun e w' => e = .returned (.bool (decide (s.lim = 0))) ∧ ModelAt w' b (fOp s).1 ∧ Touch b none (w.alloc (.cells #[.int .u8 kd, .string t, .int .i64 (n : Int), .int .u8 (d : Int)] 88)) w' := fun nq =>
    (step_any b s _ (h1.below (below_dn (Below.refl _ _) nq)) hl hu).mono fun e w' hh => ⟨hh.1, hh.2.1, (Touch.ofBelow (below_dn (Below.refl _ _) nq)).trans hh.2.2⟩
  rw [hd] at c3
  have n0 : ¬ (n : Int) < 0 := by omega
  have n1 : ¬ (s.bytes.size : Int) < (n : Int) := by omega
  rw [fOp_1 h0, decide_eq_false h0] at cs
  clear fr h1 t1 hB hd hk h0 hl hu h
  go_enter Try.func57, Try.ntmps57
  go_wp2_with fail
  go_quiet (fail)
  go_wp2_with fail
  refine (cs _).mono ?_
  rintro e w2 ⟨rfl, h2, t2⟩
  obtain ⟨o0, o1, o2, o3⟩ := O1.out _ t2
  clear c0 c1 c2 c3 hlt
  obtain ⟨c0, c1, c2, c3, fr, hlt⟩ := h2.cells
  have f0 := fr 0
  have f1 := fr 1
  have hto := str_to s.bytes n hn
  have H2 := Lib.hid h2
  have T2 := Lib.hid (T1.out.trans t2)
  clear fr h2 t2 T1 O1
  go_wp2_with fail
  go_region
  have h5 : ModelAt (w2.setCell ⟨b, 0, none⟩ (.string (s.bytes.extract 0 n))).drew b { s with lim := max (s.lim - 1) (-1), bytes := s.bytes.extract 0 n } :=
    have h4 : ModelAt (w2.setCell ⟨b, 0, none⟩ (.string (s.bytes.extract 0 n))) b { s with lim := max (s.lim - 1) (-1), bytes := s.bytes.extract 0 n } := H2.out.set 0 _ rfl
    h4.below (Below.refl _ _).drew
  have t5 : Touch b none w (w2.setCell ⟨b, 0, none⟩ (.string (s.bytes.extract 0 n))).drew := (T2.out.setCell 0 _).trans (Touch.ofBelow (Below.refl _ _).drew)
  have p2 : (w2.setCell ⟨b, 0, none⟩ (.string (s.bytes.extract 0 n))).drew.cell? ⟨w.heap.size, 2, none⟩ = some (.int .i64 (n : Int)) :=
    (World.cell?_setCell_other w2 ⟨b, 0, none⟩ ⟨w.heap.size, 2, none⟩ (.string (s.bytes.extract 0 n)) (fun e => absurd (congrArg Addr.block e) (show b ≠ w.heap.size by omega))).trans o2
  generalize (w2.setCell ⟨b, 0, none⟩ (.string (s.bytes.extract 0 n))).drew = W5 at *
  clear c0 c1 c2 c3 hlt f0 f1 o0 o1 o2 o3 hto H2 T2
  obtain ⟨c0, c1, c2, c3, fr, hlt⟩ := h5.cells
  have f1 := fr 1
  have H5 := Lib.hid h5
  have T5 := Lib.hid t5
  clear h5 t5 fr cs
  by_cases hm2 : s.syn ≤ n
  · have Hm := Lib.hid (show min s.syn n = s.syn from Nat.min_eq_left hm2)
    have i0 : ¬ (n : Int) < (s.syn : Int) := by omega
    go_wp2_with fail
    go_region
    go_wp2_with fail
    go_returns
    rw [Hm.out]
    exact ⟨rfl, (H5.out.set 1 _ rfl).below (Below.refl _ _).drew, (T5.out.setCell 1 _).trans (Touch.ofBelow (Below.refl _ _).drew)⟩
  · have Hm := Lib.hid (show min s.syn n = n from Nat.min_eq_right (by omega))
    have i0 : (n : Int) < (s.syn : Int) := by omega
    go_wp2_with fail
    go_region
    go_wp2_with fail
    go_returns
    rw [Hm.out]
    have h6 : ModelAt (W5.setCell ⟨b, 1, none⟩ (.int .i64 (n : Int))) b { s with lim := max (s.lim - 1) (-1), bytes := s.bytes.extract 0 n, syn := n } := H5.out.set 1 _ rfl
    exact ⟨rfl, h6.below (Below.refl _ _).drew, (T5.out.setCell 1 _).trans (Touch.ofBelow (Below.refl _ _).drew)⟩

/-- One operation, on the state of a file. -/
def fDo (kd : Int) (t : ByteArray) (n : Int) (d : Nat) (s : FS) : FS × Int :=
  if kd % 7 = 0 ∨ kd % 7 = 1 then fAppend t s else if kd % 7 = 2 then fSync s else if kd % 7 = 3 then fTrunc n s else if kd % 7 = 4 then ({ s with lim := max n (-1) }, 0) else if kd % 7 = 5 then ({ s with down := true }, 0) else fRestart n d s

theorem do_any (b : Nat) (s : FS) (kd : Int) (t : ByteArray) (n : Int) (d : Nat) (w : World) (h : ModelAt w b s) (k0 : 0 ≤ kd) (k1 : kd < 256) (hl : -1 ≤ s.lim) (hu : s.lim < 9223372036854775808) (hsz : s.bytes.size + t.size ≤ 16777216) (hsyn : s.syn ≤ s.bytes.size) (hd8 : d < 256) (hn : n < 9223372036854775808) :
    Calls Try.prog 57 #[.pointer (some ⟨b, 0, none⟩), opV kd t n d] w fun e w' => e = .returned (.int .i64 (fDo kd t n d s).2) ∧ ModelAt w' b (fDo kd t n d s).1 ∧ Touch b none w w' := by
  unfold fDo
  have h7 : kd % 7 = 0 ∨ kd % 7 = 1 ∨ kd % 7 = 2 ∨ kd % 7 = 3 ∨ kd % 7 = 4 ∨ kd % 7 = 5 ∨ kd % 7 = 6 := by omega
  by_cases hd : s.down = true
  · rcases h7 with hk | hk | hk | hk | hk | hk | hk
    · rw [if_pos (.inl hk)]; unfold fAppend; rw [if_pos hd]; exact do_down b s kd t n d w h k0 k1 hd (.inl hk)
    · rw [if_pos (.inr hk)]; unfold fAppend; rw [if_pos hd]; exact do_down b s kd t n d w h k0 k1 hd (.inr (.inl hk))
    · rw [if_neg (by omega), if_pos hk]; unfold fSync; rw [if_pos hd]; exact do_down b s kd t n d w h k0 k1 hd (.inr (.inr (.inl hk)))
    · rw [if_neg (by omega), if_neg (by omega), if_pos hk]; unfold fTrunc; rw [if_pos hd]; exact do_down b s kd t n d w h k0 k1 hd (.inr (.inr (.inr hk)))
    · rw [if_neg (by omega), if_neg (by omega), if_neg (by omega), if_pos hk]
      by_cases hm : n < -1
      · rw [show max n (-1) = -1 from by omega]; exact do_4a b s kd t n d w h k0 k1 hk hm
      · rw [show max n (-1) = n from by omega]; exact do_4b b s kd t n d w h k0 k1 hk hm
    · rw [if_neg (by omega), if_neg (by omega), if_neg (by omega), if_neg (by omega), if_pos hk]; exact do_5 b s kd t n d w h k0 k1 hk
    · rw [if_neg (by omega), if_neg (by omega), if_neg (by omega), if_neg (by omega), if_neg (by omega)]
      unfold fRestart
      rw [if_neg (by rw [hd]; decide)]
      by_cases hm : n < 0
      · rw [if_pos hm]; exact do_6b b s kd t n d w h k0 k1 hk hd hm
      · rw [if_neg hm]
        obtain ⟨k, rfl⟩ : ∃ k : Nat, n = (k : Int) := ⟨n.toNat, by omega⟩
        rw [Int.toNat_natCast]
        exact do_6c b s kd t k d w h k0 k1 hk hd hd8 hn (by omega) hsyn
  · have hd' : s.down = false := by simpa using hd
    rcases h7 with hk | hk | hk | hk | hk | hk | hk
    · rw [if_pos (.inl hk)]; unfold fAppend; rw [if_neg hd]
      by_cases h0 : s.lim = 0
      · rw [if_pos h0]; exact do_0a b s kd t n d w h k0 k1 hk hd' hl hu h0 hsz
      · rw [if_neg h0]; exact do_0b b s kd t n d w h k0 k1 hk hd' hl hu h0 hsz
    · rw [if_pos (.inr hk)]; unfold fAppend; rw [if_neg hd]
      by_cases h0 : s.lim = 0
      · rw [if_pos h0]; exact do_1a b s kd t n d w h k0 k1 hk hd' hl hu h0 hsz
      · rw [if_neg h0]; exact do_1b b s kd t n d w h k0 k1 hk hd' hl hu h0 hsz
    · rw [if_neg (by omega), if_pos hk]; unfold fSync; rw [if_neg hd]
      by_cases h0 : s.lim = 0
      · rw [if_pos h0]; exact do_2a b s kd t n d w h k0 k1 hk hd' hl hu h0
      · rw [if_neg h0]; exact do_2b b s kd t n d w h k0 k1 hk hd' hl hu h0
    · rw [if_neg (by omega), if_neg (by omega), if_pos hk]; unfold fTrunc; rw [if_neg hd]
      by_cases hm : n < 0 ∨ (s.bytes.size : Int) < n
      · rw [if_pos hm]; exact do_3bad b s kd t n d w h k0 k1 hk hd' (by omega) hm
      · rw [if_neg hm]
        obtain ⟨k, rfl⟩ : ∃ k : Nat, n = (k : Int) := ⟨n.toNat, by omega⟩
        rw [Int.toNat_natCast]
        by_cases h0 : s.lim = 0
        · rw [if_pos h0]; exact do_3a b s kd t k d w h k0 k1 hk hd' hl hu (by omega) (by omega) h0
        · rw [if_neg h0]; exact do_3b b s kd t k d w h k0 k1 hk hd' hl hu (by omega) (by omega) h0
    · rw [if_neg (by omega), if_neg (by omega), if_neg (by omega), if_pos hk]
      by_cases hm : n < -1
      · rw [show max n (-1) = -1 from by omega]; exact do_4a b s kd t n d w h k0 k1 hk hm
      · rw [show max n (-1) = n from by omega]; exact do_4b b s kd t n d w h k0 k1 hk hm
    · rw [if_neg (by omega), if_neg (by omega), if_neg (by omega), if_neg (by omega), if_pos hk]; exact do_5 b s kd t n d w h k0 k1 hk
    · rw [if_neg (by omega), if_neg (by omega), if_neg (by omega), if_neg (by omega), if_neg (by omega)]
      unfold fRestart
      rw [if_pos hd']
      exact do_6a b s kd t n d w h k0 k1 hk hd'
end Go.Proofs.Ythfnpakddnnccaa
