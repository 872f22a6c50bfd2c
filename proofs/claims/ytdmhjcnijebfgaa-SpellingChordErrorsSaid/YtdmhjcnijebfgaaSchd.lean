/- Chord of package spelling: contract. -/
import Derived.Test.YtdmhjcnijebfgaaSspl
import Derived.Test.YtdmhjcnijebfgaaSlaw
namespace Go.Proofs.Ytdmhjcnijebfgaa
open Go.RowKit
set_option linter.unusedVariables false

theorem chord_range (A : Option Addr) (n c : Nat) (f : Int) (w : World) (hn : n ≤ maxLen) (h : f < -7 ∨ 7 < f) :
    Calls Try.prog 25 #[.slice A n c, .int .i64 f] w fun e w' => e = .returned (.tuple #[.slice none 0 0, .int .i64 2]) ∧ Below w.heap.size w w' := by
  unfold maxLen at hn
  go_enter Try.func25, Try.ntmps25
  go_wp2_with (go_at_call 27; refine (guard_bad _ _ _ _ h).mono ?_; rintro e w1 ⟨rfl, hb⟩)
  go_returns
  exact ⟨rfl, base1 hb⟩
theorem chord_long (A : Option Addr) (n c : Nat) (f : Int) (w : World) (hn : n ≤ maxLen) (h0 : -7 ≤ f) (h1 : f ≤ 7) (h : 10 < n) :
    Calls Try.prog 25 #[.slice A n c, .int .i64 f] w fun e w' => e = .returned (.tuple #[.slice none 0 0, .int .i64 9]) ∧ Below w.heap.size w w' := by
  unfold maxLen at hn
  have h' : (10 : Int) < (n : Int) := by omega
  go_enter Try.func25, Try.ntmps25
  go_wp2_with (go_at_call 27; refine (guard_long _ _ _ _ h0 h1 h').mono ?_; rintro e w1 ⟨rfl, hb⟩)
  go_returns
  exact ⟨rfl, base1 hb⟩
set_option maxRecDepth 100000 in
theorem chord_bad (A : Option Addr) (c : Nat) (l : List Int) (f : Int) (w : World) (hrd : Rd w w.heap.size A (ints l)) (hn : l.length ≤ 10) (h0 : -7 ≤ f) (h1 : f ≤ 7) (h : ∃ n ∈ l, n < 0 ∨ 127 < n) :
    Calls Try.prog 25 #[.slice A l.length c, .int .i64 f] w fun e w' => e = .returned (.tuple #[.slice none 0 0, .int .i64 2]) ∧ Below w.heap.size w w' := by
  have h' : (l.length : Int) ≤ 10 := by omega
  have Hrd := Lib.hid hrd
  have Hh := Lib.hid h
  clear hrd h
  go_enter Try.func25, Try.ntmps25
  go_wp2_with (go_at_call 27; refine (guard_ok _ _ _ _ h0 h1 h').mono ?_; rintro e w1 ⟨rfl, hb⟩)
  refine (choices_any A c l w1 (rd_below Hrd.out (base1 hb)) (by omega)).mono ?_
  rintro e w2 ⟨hb2, _, h3⟩
  obtain rfl := h3 Hh.out
  clear h3
  go_wp2_with fail
  go_returns
  exact ⟨rfl, next0 (base1 hb) hb2⟩

/-- The numbers rise. -/
def riseI (l : List Int) : Prop := ∀ i, i + 1 < l.length → l.getD i 0 < l.getD (i + 1) 0
theorem spl_nil (A : Option Addr) (c : Nat) (K : Value) (w : World) :
    Calls Try.prog 42 #[.slice A 0 c, .slice none 0 0, K] w fun e w' => e = .returned (.tuple #[]) ∧ Below w.heap.size w w' := by
  go_enter Try.func42, Try.ntmps42
  go_wp2_with fail
  go_returns
  exact ⟨rfl, by go_grown⟩
def CdPost (l : List Int) (f : Int) (w : World) (e : Ending) (w' : World) : Prop :=
  Below w.heap.size w w' ∧ (riseI l → ∃ A c, e = .returned (.tuple #[.slice A (wbst f (l.map enh)).length c, .int .i64 0]) ∧ (wbst f (l.map enh)).length ≤ c ∧ c ≤ maxLen ∧ Rd w' w'.heap.size A (pitsC (wbst f (l.map enh)))) ∧
    (¬ riseI l → e = .returned (.tuple #[.slice none 0 0, .int .i64 25]))
set_option maxRecDepth 100000 in
set_option maxHeartbeats 4000000 in
theorem chord_in (A : Option Addr) (c : Nat) (l : List Int) (f : Int) (w : World) (hrd : Rd w w.heap.size A (ints l)) (hn : l.length ≤ 10) (h0 : -7 ≤ f) (h1 : f ≤ 7) (h : ∀ n ∈ l, 0 ≤ n ∧ n ≤ 127) :
    Calls Try.prog 25 #[.slice A l.length c, .int .i64 f] w (CdPost l f w) := by
  have h' : (l.length : Int) ≤ 10 := by omega
  have Hrd := Lib.hid hrd
  have Hh := Lib.hid h
  clear hrd h
  go_enter Try.func25, Try.ntmps25
  go_wp2_with (go_at_call 27; refine (guard_ok _ _ _ _ h0 h1 h').mono ?_; rintro e w1 ⟨rfl, hb⟩)
  refine (choices_any A c l w1 (rd_below Hrd.out (base1 hb)) (by omega)).mono ?_
  rintro e w2 ⟨hb2, h3, _⟩
  obtain ⟨A1, c1, rfl, hc1, hc1m, hrd2⟩ := h3 Hh.out
  have HR := Lib.hid (And.intro hc1 (And.intro hc1m hrd2))
  have Bw : Below w.heap.size w w2 := next0 (base1 hb) hb2
  have cB : w2.cell? ⟨w.heap.size, 0, none⟩ = some (.int .i64 f) := by
    rw [(next0 hb hb2).cell (p := ⟨w.heap.size, 0, none⟩) (by rw [World.size_alloc]; show w.heap.size < _; omega), cell_of_row _ _ 0 _ _ _ (heap_alloc_last w _)]
    rfl
  have hBl : w.heap.size < w2.heap.size := World.block_lt_of_cell? _ _ cB
  clear h3 hrd2 hc1 hc1m hb hb2
  go_wp2_with fail
  go_loopw [9] (fun i wr => ∃ m : Nat, (m + 1 ≤ l.length ∨ m = 0) ∧ i = .int .i64 ((m : Int) + 1) ∧ Hid (∀ i, i < m → l.getD i 0 < l.getD (i + 1) 0) ∧ Below w2.heap.size w2 wr) (fun i _ => l.length - (intOf i).toNat)
  case atStart => exact ⟨0, .inr rfl, rfl, Lib.hid (fun i hi => by omega), Below.refl _ _⟩
  case round =>
    obtain ⟨m, hm, rfl, HI, hbr⟩ := hrel
    have Bwr : Below w.heap.size w wr := next0 Bw hbr
    by_cases hlt : m + 1 < l.length
    · have k0 : (0 : Int) ≤ (m : Int) := by omega
      have k1 : (m : Int) + 1 < (l.length : Int) := by omega
      have k2 : (m : Int) < (l.length : Int) := by omega
      have k3 : (0 : Int) ≤ (m : Int) + 1 := by omega
      have kn : ((m : Int) + 1).toNat = m + 1 := by omega
      have i2 : IntKind.i64.wrap ((m : Int) + 1 - 1) = (m : Int) := by rw [show (m : Int) + 1 - 1 = (m : Int) from by omega]; exact IntWalk.i64_in _ (by omega)
      have hAw := rd_below Hrd.out Bwr
      obtain ⟨b, off, rfl, hlb, q1⟩ := rdI hAw hlt
      obtain ⟨b', off', eA, _, q0⟩ := rdI hAw (k := m) (by omega)
      obtain ⟨rfl, rfl⟩ : b' = b ∧ off' = off := by
        injection eA with eA
        injection eA with e1 e2
        exact ⟨e1.symm, e2.symm⟩
      have f1 : ∀ sx : Later wr.heap.size wr, sx.w.cell? ⟨b', off' + (m + 1), none⟩ = some (.int .i64 (l.getD (m + 1) 0)) := fun sx => later_cell q1 hlb sx
      have f0 : ∀ sx : Later wr.heap.size wr, sx.w.cell? ⟨b', off' + m, none⟩ = some (.int .i64 (l.getD m 0)) := fun sx => later_cell q0 hlb sx
      clear q0 q1 eA hAw
      by_cases hle : l.getD (m + 1) 0 ≤ l.getD m 0
      · have Hno := Lib.hid (show ¬ riseI l from fun hr => by have := hr m hlt; omega)
        generalize l.getD (m + 1) 0 = x1 at *
        generalize l.getD m 0 = x0 at *
        go_wp2_with fail
        refine wp_region_later (by kernel_rfl) (by kernel_rfl) ?_
        repeat (go_big_quiet_step (fail))
        refine wpQuiet_nil ?_
        intro w5 hb5
        clear f0 f1
        go_wp2
        go_returns
        exact ⟨next0 Bwr hb5, fun h => absurd h Hno.out, fun _ => rfl⟩
      · have HI1 := Lib.hid (show ∀ i, i < m + 1 → l.getD i 0 < l.getD (i + 1) 0 from fun i hi => by
          by_cases e : i = m
          · subst e; omega
          · exact HI.out i (by omega))
        have hlt2 : l.getD m 0 < l.getD (m + 1) 0 := by omega
        generalize l.getD (m + 1) 0 = x1 at *
        generalize l.getD m 0 = x0 at *
        go_wp2_with fail
        refine wp_region_later (by kernel_rfl) (by kernel_rfl) ?_
        repeat (go_big_quiet_step (fail))
        refine wpQuiet_nil ?_
        intro w5 hb5
        clear f0 f1
        go_wp2
        go_roundw
        case rel => exact ⟨m + 1, .inl (by omega), by go_num, HI1, next0 hbr hb5⟩
        case measure => simp [intOf]; omega
    · have hex : ¬ ((m : Int) + 1 < (l.length : Int)) := by omega
      have Hri : Hid (riseI l) := Lib.hid (fun i hi => HI.out i (by omega))
      have hmf : ∀ (fn : Fn) (first cap : Array Value) (w : World), (Instr.makeFunc fn first cap).run Try.prog w = .ok (.func fn first cap) w := fun _ _ _ _ => rfl
      have hb1 : Below wr.heap.size wr (wr.alloc (.cells #[.slice none 0 0] PITS)) := (Below.refl _ wr).alloc (Nat.le_refl _) _
      have hbW : Below wr.heap.size wr ((wr.alloc (.cells #[.slice none 0 0] PITS)).alloc (.cells #[.int .i64 0] INT)) := hb1.alloc hb1.size _
      have hX : ((wr.alloc (.cells #[.slice none 0 0] PITS)).alloc (.cells #[.int .i64 0] INT)).heap[wr.heap.size]? = some (.cells #[.slice none 0 0] PITS (0, 0)) := heap_alloc_old (heap_alloc_last wr _)
      have hY : ((wr.alloc (.cells #[.slice none 0 0] PITS)).alloc (.cells #[.int .i64 0] INT)).heap[wr.heap.size + 1]? = some (.cells #[.int .i64 0] INT (0, 0)) := by
        have h := heap_alloc_last (wr.alloc (.cells #[.slice none 0 0] PITS)) (.cells #[.int .i64 0] INT)
        rw [World.size_alloc] at h
        exact h
      have Hb := Lib.hid (And.intro hbW (And.intro hX hY))
      have HbrX := Lib.hid hbr
      clear hb1 hbW hX hY
      go_wp2_with fail
      by_cases hz : l.length = 0
      · obtain rfl : l = [] := List.eq_nil_of_length_eq_zero hz
        refine (spl_nil A1 c1 _ _).mono ?_
        rintro e w6 ⟨rfl, hb6⟩
        have hX6 := (hb6.block _ (heap_lt Hb.out.2.1)).trans Hb.out.2.1
        obtain ⟨cX6, _⟩ := cell0 hX6
        go_wp2_with fail
        go_returns
        exact ⟨next0 (next0 Bwr Hb.out.1) hb6, fun _ => ⟨none, 0, rfl, Nat.le_refl _, Nat.zero_le _, .inl rfl⟩, fun h => absurd Hri.out h⟩
      · have HEok : ∀ L ∈ l.map enh, (∀ p ∈ L, okQ p) ∧ L.length ≤ 3 := fun L hL => by
          obtain ⟨n, hn, rfl⟩ := List.mem_map.1 hL
          exact ⟨fun p hp => (enh_all hp).1, enh_small (Hh.out n hn).1 (Hh.out n hn).2⟩
        have hEl : (l.map enh).length = l.length := List.length_map ..
        have hcB := (((hbr.cell (p := ⟨w.heap.size, 0, none⟩) hBl)).trans cB)
        have hcBW := (Hb.out.1.cell (p := ⟨w.heap.size, 0, none⟩) (World.block_lt_of_cell? _ _ hcB)).trans hcB
        have hlt0 : w.heap.size < wr.heap.size := World.block_lt_of_cell? _ _ hcB
        have F := spl_any w.heap.size wr.heap.size (wr.heap.size + 1) f h0 h1 wr (by omega) (by omega) (by omega) (Nat.le_refl _) (by omega) (l.map enh) A1 c1 none 0 [] [] _ (HR.out.2.2.below hbr) (by rw [hEl]; exact HR.out.1) HR.out.2.1 HEok (fun p hp => (by cases hp)) (by rw [hEl]; show 0 + l.length ≤ 100; omega) (by rw [hEl]; show 0 < 0 + l.length; omega)
          Hb.out.1 hcBW ⟨_, _, Hb.out.2.1, Hb.out.2.2, .inl ⟨rfl, rfl⟩⟩ ⟨none, 0, rfl, Nat.le_refl _, Nat.zero_le _, .inl rfl⟩
        rw [hEl] at F
        refine F.mono ?_
        rintro e w6 ⟨rfl, hb6, hS6⟩
        have e6 : [] ++ (prod (l.map enh)).map (([] : List Pit) ++ ·) = prod (l.map enh) := by simp
        rw [e6] at hS6
        obtain ⟨v, mm, hX6, _, hS⟩ := hS6
        have hne : 0 < (prod (l.map enh)).length := by
          obtain ⟨y, hy⟩ := prod_ne (l.map enh) (fun L hL => by
            obtain ⟨n, hn, rfl⟩ := List.mem_map.1 hL
            exact enh_ne (Hh.out n hn).1 (Hh.out n hn).2)
          exact List.length_pos_iff.2 (fun e => by rw [e] at hy; cases hy)
        rcases hS with ⟨h2, _⟩ | ⟨y, hy, _, _, hsl⟩
        · rw [h2] at hne
          exact absurd hne (by decide)
        · obtain rfl : y = wbst f (l.map enh) := hy.uniq (lIdx_fm (wtQ f) (prod (l.map enh)) hne)
          obtain ⟨cX6, _⟩ := cell0 hX6
          obtain ⟨A7, c7, rfl, g1, g2, g3⟩ := SlT.rd hsl
          have HG := Lib.hid (And.intro g1 (And.intro g2 g3))
          have hB6 : Below w.heap.size w w6 := (next0 Bwr Hb.out.1).trans (hb6.below (by have := (next0 Bwr Hb.out.1).size; exact this) (by omega) (by omega))
          have HB6 := Lib.hid hB6
          clear g1 g2 g3 hsl hy hne hX6 hb6 e6 F hcB hcBW HEok hB6
          go_wp2_with fail
          go_returns
          exact ⟨HB6.out, fun _ => ⟨A7, c7, rfl, HG.out.1, HG.out.2.1, HG.out.2.2⟩, fun h => absurd Hri.out h⟩
end Go.Proofs.Ytdmhjcnijebfgaa
