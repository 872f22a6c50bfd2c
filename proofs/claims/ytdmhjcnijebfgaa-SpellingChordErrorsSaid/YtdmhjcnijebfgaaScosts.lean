/- Costs, of the package and of the reference: contracts. -/
import Derived.Test.YtdmhjcnijebfgaaSlaw
import Derived.Test.YtdmhjcnijebfgaaSref5
namespace Go.Proofs.Ytdmhjcnijebfgaa
open Go.RowKit
set_option linter.unusedVariables false

theorem routside_any (s al o f : Int) (w : World) (h : okP s al o) (hf : -7 ≤ f) (hf' : f ≤ 7) :
    Calls Try.prog 36 #[.agg #[.int .i64 s, .int .i64 al, .int .i64 o], .int .i64 f] w fun e w' => e = .returned (.int .i64 (outQ f (s, al, o))) ∧ Below w.heap.size w w' := by
  obtain ⟨b0, b1⟩ := fif_bd h
  have hcase : (0 < f - 1 - fif s al ∧ fif s al - f - 5 ≤ 0 ∧ outQ f (s, al, o) = f - 1 - fif s al) ∨ (f - 1 - fif s al ≤ 0 ∧ 0 < fif s al - f - 5 ∧ outQ f (s, al, o) = fif s al - f - 5) ∨ (f - 1 - fif s al ≤ 0 ∧ fif s al - f - 5 ≤ 0 ∧ outQ f (s, al, o) = 0) := by
    unfold outQ fifQ
    dsimp only
    omega
  rcases hcase with ⟨h1, h2, h3⟩ | ⟨h1, h2, h3⟩ | ⟨h1, h2, h3⟩
  all_goals
    have H3 := Lib.hid h3
    clear h3
    go_enter Try.func36, Try.ntmps36
    go_wp2_with (go_at_call 38; refine (rfifths_any _ _ _ _ h.1).mono ?_; rintro e w1 ⟨rfl, hb⟩)
    go_returns
    exact ⟨by rw [H3.out]; first | rfl | (simp; done) | (simp; omega), base1 hb⟩
theorem magnitude_any (n : Int) (w : World) (h0 : -1000 ≤ n) (h1 : n ≤ 1000) :
    Calls Try.prog 37 #[.int .i64 n] w fun e w' => e = .returned (.int .i64 (max n (-n))) ∧ Below w.heap.size w w' := by
  rcases Int.lt_or_le n 0 with h | h
  · have e : max n (-n) = -n := by omega
    rw [e]
    go_enter Try.func37, Try.ntmps37
    go_wp2
    go_returns
    exact ⟨rfl, Below.refl _ _⟩
  · have e : max n (-n) = n := by omega
    rw [e]
    go_enter Try.func37, Try.ntmps37
    go_wp2
    go_returns
    exact ⟨rfl, Below.refl _ _⟩

/-- A list's cost, one pitch more. -/
theorem cst_take (f : Int) (L : List Pit) {k : Nat} (hk : k < L.length) : cst (cQ f) dQ (L.take (k + 1)) = cst (cQ f) dQ (L.take k) + ((if k = 0 then 0 else dQ (L.getD (k - 1) default) (L.getD k default)) + cQ f (L.getD k default)) := by
  rw [List.take_succ_eq_append_getElem hk, cst_snoc, get_getD L default hk]
  congr 2
  by_cases h : k = 0
  · subst h; rfl
  · have hl : (L.take k).length = k := by rw [List.length_take]; omega
    rw [if_neg h, if_neg (by intro e; rw [e] at hl; exact h hl.symm)]
    congr 1
    have : (L.take k).getLastD default = (L.take k).getD (k - 1) default := by
      rw [List.getLastD_eq_getLast?, List.getLast?_eq_getElem?, hl, List.getD_eq_getElem?_getD]
    rw [this, List.getD_eq_getElem?_getD, List.getElem?_take_of_lt (by omega), ← List.getD_eq_getElem?_getD]
theorem cst_bd (f : Int) (hf : -7 ≤ f) (hf' : f ≤ 7) (L : List Pit) (hL : ∀ p ∈ L, okQ p) : ∀ k, k ≤ L.length → 0 ≤ cst (cQ f) dQ (L.take k) ∧ cst (cQ f) dQ (L.take k) ≤ 100 * (k : Int) := by
  intro k
  induction k with
  | zero => intro _; rw [List.take_zero]; show 0 ≤ (0 : Int) ∧ (0 : Int) ≤ _; simp
  | succ k ih =>
    intro hk
    have h1 := ih (by omega)
    rw [cst_take f L (by omega)]
    have h2 := hL _ (getD_memL L default (i := k) (by omega))
    have h3 := out_bd hf hf' h2
    have h4 : cQ f (L.getD k default) = 3 * outQ f (L.getD k default) := rfl
    rw [h4]
    split
    · omega
    · have h5 := d_bd (hL _ (getD_memL L default (i := k - 1) (by omega))) h2
      omega

set_option maxHeartbeats 2000000 in
theorem rcost_any (A : Option Addr) (c : Nat) (L : List Pit) (f : Int) (w : World) (hf : -7 ≤ f) (hf' : f ≤ 7) (hA : Rd w w.heap.size A (pitsC L)) (hn : L.length ≤ 2000) (hL : ∀ p ∈ L, okQ p) :
    Calls Try.prog 19 #[.slice A L.length c, .int .i64 f] w fun e w' => e = .returned (.int .i64 (cst (cQ f) dQ L)) ∧ Below w.heap.size w w' := by
  have HA := Lib.hid hA
  have HL := Lib.hid hL
  clear hA hL
  go_enter Try.func19, Try.ntmps19
  go_wp2_with fail
  go_loopw [5, 6] (fun s i wr => ∃ k : Nat, k ≤ L.length ∧ i = .int .i64 (k : Int) ∧ s = .int .i64 (cst (cQ f) dQ (L.take k)) ∧ Below w.heap.size w wr) (fun _ i _ => L.length - (intOf i).toNat)
  case atStart => exact ⟨0, Nat.zero_le _, rfl, rfl, Below.refl _ _⟩
  case round =>
    obtain ⟨k, hk, rfl, rfl, hb⟩ := hrel
    by_cases hlt : k < L.length
    · have hbd := cst_bd f hf hf' L HL.out k hk
      have hst := cst_take f L hlt
      have hok := HL.out _ (getD_memL L default hlt)
      have hob := out_bd hf hf' hok
      obtain ⟨b, off, rfl, hlb, q0, q1, q2⟩ := rdP HA.out hlt
      have c0 := (hb.cell (p := ⟨b, off + k * 3, none⟩) hlb).trans q0
      have c1 := (hb.cell (p := ⟨b, off + k * 3 + 1, none⟩) hlb).trans q1
      have c2 := (hb.cell (p := ⟨b, off + k * 3 + 2, none⟩) hlb).trans q2
      have i0 : (0 : Int) ≤ (k : Int) := by omega
      have i1 : (k : Int) < (L.length : Int) := by omega
      clear q0 q1 q2
      have hcq : cQ f (L.getD k default) = 3 * outQ f (L.getD k default) := rfl
      rw [hcq] at hst
      by_cases hk0 : k = 0
      · rw [if_pos hk0] at hst
        have hst' : cst (cQ f) dQ (L.take (k + 1)) = cst (cQ f) dQ (L.take k) + 3 * outQ f (L.getD k default) := by rw [hst]; omega
        have Hst := Lib.hid hst'
        have hkz : (k : Int) ≤ 0 := by omega
        clear hst hst' hcq hk0
        generalize cst (cQ f) dQ (L.take k) = S at *
        generalize L.getD k default = p at *
        obtain ⟨s, al, o⟩ := p
        dsimp only at c0 c1 c2
        go_wp2_with (go_at_call 36; refine (routside_any _ _ _ _ _ hok hf hf').mono ?_; rintro e w1 ⟨rfl, hb1⟩)
        go_roundw
        case rel => exact ⟨k + 1, by omega, by go_num, by rw [Hst.out], next0 hb hb1⟩
        case measure => simp [intOf]; omega
      · obtain ⟨m, rfl⟩ : ∃ m, k = m + 1 := ⟨k - 1, by omega⟩
        rw [if_neg hk0, Nat.add_sub_cancel] at hst
        have hltm : m < L.length := by omega
        have hokm := HL.out _ (getD_memL L default hltm)
        obtain ⟨b', off', eA, hlb', r0, r1, r2⟩ := rdP HA.out hltm
        obtain ⟨rfl, rfl⟩ : b' = b ∧ off' = off := by
          injection eA with eA
          injection eA with e1 e2
          exact ⟨e1.symm, e2.symm⟩
        have hdb := d_bd hokm hok
        have Hst := Lib.hid hst
        have hfb := fif_bd hok
        have hfbm := fif_bd hokm
        clear hst hcq eA hk0
        generalize cst (cQ f) dQ (L.take (m + 1)) = S at *
        generalize L.getD (m + 1) default = p at *
        generalize L.getD m default = q at *
        obtain ⟨s, al, o⟩ := p
        obtain ⟨s', al', o'⟩ := q
        have hdd : dQ (s', al', o') (s, al, o) = max (fif s al - fif s' al') (-(fif s al - fif s' al')) := by unfold dQ fifQ; dsimp only; omega
        dsimp only at c0 c1 c2 r0 r1 r2 hfb hfbm
        have m1 : IntKind.i64.wrap ((m : Int) + 1 - 1) = (m : Int) := by rw [show (m : Int) + 1 - 1 = (m : Int) from by omega]; exact IntWalk.i64_in _ (by omega)
        have hk1 : ((m + 1 : Nat) : Int) = (m : Int) + 1 := by omega
        have hcast : (0 : Int) < (m : Int) + 1 := by omega
        go_wp2_with (go_at_call 36; refine (routside_any _ _ _ _ _ hok hf hf').mono ?_; rintro e w1 ⟨rfl, hb1⟩)
        have hlw : b' < wr.heap.size := Nat.lt_of_lt_of_le hlb hb.size
        have lc := fun (i : Nat) (v : Value) (h : wr.cell? ⟨b', i, none⟩ = some v) (sx : Later w1.heap.size w1) => later_cell ((hb1.cell (p := ⟨b', i, none⟩) hlw).trans h) (Nat.lt_of_lt_of_le hlw hb1.size) sx
        have f0 := lc _ _ c0
        have f1 := lc _ _ c1
        have f2 := lc _ _ c2
        have f3 := lc _ _ ((hb.cell (p := ⟨b', off' + m * 3, none⟩) hlb).trans r0)
        have f4 := lc _ _ ((hb.cell (p := ⟨b', off' + m * 3 + 1, none⟩) hlb).trans r1)
        have f5 := lc _ _ ((hb.cell (p := ⟨b', off' + m * 3 + 2, none⟩) hlb).trans r2)
        have hm := fun (sx : Later w1.heap.size w1) => later_calls (s := sx) (Nat.le_refl _) (magnitude_any (fif s al - fif s' al') sx.w (by omega) (by omega))
        rw [← hdd] at hm
        have Hm := Lib.hid hm
        have m2 : IntKind.i64.wrap (fif s al - fif s' al') = fif s al - fif s' al' := IntWalk.i64_in _ (by omega)
        have m3 : IntKind.i64.wrap (S + 3 * outQ f (s, al, o) + dQ (s', al', o') (s, al, o)) = S + 3 * outQ f (s, al, o) + dQ (s', al', o') (s, al, o) := IntWalk.i64_in _ (by omega)
        have j0 : (0 : Int) ≤ (m : Int) := by omega
        have j1 : (m : Int) < (L.length : Int) := by omega
        have j2 : ((m : Int) + 1).toNat = m + 1 := by omega
        clear lc hm hdd c0 c1 c2 r0 r1 r2
        refine wp_region_later (by kernel_rfl) (by kernel_rfl) ?_
        repeat (go_big_quiet_step ((first | (go_at_call 38; first | exact later_calls (Nat.le_refl _) (rfifths_any _ _ _ _ hok.1) | exact later_calls (Nat.le_refl _) (rfifths_any _ _ _ _ hokm.1)) | exact Hm.out _)))
        refine wpQuiet_nil ?_
        intro w2 hb2
        clear f0 f1 f2 f3 f4 f5 m1 m2 m3
        go_wp2
        go_roundw
        case rel => exact ⟨m + 1 + 1, by omega, by go_num, by rw [Hst.out]; congr 1; omega, next0 (next0 hb hb1) hb2⟩
        case measure => simp [intOf]; omega
    · obtain rfl : k = L.length := by omega
      rw [List.take_length]
      go_wp2_with fail
      go_returns
      exact ⟨rfl, hb⟩
theorem pcost_range (A : Option Addr) (n c : Nat) (f : Int) (w : World) (hn : n ≤ maxLen) (h : f < -7 ∨ 7 < f) :
    Calls Try.prog 21 #[.slice A n c, .int .i64 f] w fun e w' => e = .returned (.tuple #[.int .i64 0, .int .i64 2]) ∧ Below w.heap.size w w' := by
  unfold maxLen at hn
  go_enter Try.func21, Try.ntmps21
  go_wp2_with (go_at_call 27; refine (guard_bad _ _ _ _ h).mono ?_; rintro e w1 ⟨rfl, hb⟩)
  go_returns
  exact ⟨rfl, hb⟩
theorem pcost_long (A : Option Addr) (n c : Nat) (f : Int) (w : World) (hn : n ≤ maxLen) (h0 : -7 ≤ f) (h1 : f ≤ 7) (h : 1024 < n) :
    Calls Try.prog 21 #[.slice A n c, .int .i64 f] w fun e w' => e = .returned (.tuple #[.int .i64 0, .int .i64 9]) ∧ Below w.heap.size w w' := by
  unfold maxLen at hn
  have h' : (1024 : Int) < (n : Int) := by omega
  go_enter Try.func21, Try.ntmps21
  go_wp2_with (go_at_call 27; refine (guard_long _ _ _ _ h0 h1 h').mono ?_; rintro e w1 ⟨rfl, hb⟩)
  go_returns
  exact ⟨rfl, hb⟩
/-- The cost of pitches that exist; or the error. -/
def CostPost (f : Int) (L : List Pit) (w : World) (e : Ending) (w' : World) : Prop :=
  Below w.heap.size w w' ∧ ((∀ p ∈ L, okQ p) → e = .returned (.tuple #[.int .i64 (cst (cQ f) dQ L), .int .i64 0])) ∧ ((∃ p ∈ L, ¬ okQ p) → e = .returned (.tuple #[.int .i64 0, .int .i64 18]))
theorem mem_take_ok {L : List Pit} {k : Nat} (h : ∀ i, i < k → okQ (L.getD i default)) : ∀ p ∈ L.take k, okQ p := by
  intro p hp
  obtain ⟨i, hi, rfl⟩ := List.getElem_of_mem hp
  have hi' : i < k ∧ i < L.length := by rw [List.length_take] at hi; omega
  rw [List.getElem_take, get_getD L default hi'.2]
  exact h i hi'.1
theorem cst_bd' (f : Int) (hf : -7 ≤ f) (hf' : f ≤ 7) (L : List Pit) (k : Nat) (hk : k ≤ L.length) (h : ∀ i, i < k → okQ (L.getD i default)) : 0 ≤ cst (cQ f) dQ (L.take k) ∧ cst (cQ f) dQ (L.take k) ≤ 100 * (k : Int) := by
  have := cst_bd f hf hf' (L.take k) (mem_take_ok h) k (by rw [List.length_take]; omega)
  rwa [List.take_take, Nat.min_self] at this
set_option maxHeartbeats 2000000 in
theorem pcost_any (A : Option Addr) (c : Nat) (L : List Pit) (f : Int) (w : World) (hf : -7 ≤ f) (hf' : f ≤ 7) (hA : Rd w w.heap.size A (pitsC L)) (hn : L.length ≤ 1024) :
    Calls Try.prog 21 #[.slice A L.length c, .int .i64 f] w (CostPost f L w) := by
  have h' : (L.length : Int) ≤ 1024 := by omega
  have HA := Lib.hid hA
  clear hA
  go_enter Try.func21, Try.ntmps21
  go_wp2_with (go_at_call 27; refine (guard_ok _ _ _ _ hf hf' h').mono ?_; rintro e w0 ⟨rfl, hb0⟩)
  go_loopw [7, 20] (fun s i wr => ∃ k : Nat, k ≤ L.length ∧ i = .int .i64 (k : Int) ∧ s = .int .i64 (cst (cQ f) dQ (L.take k)) ∧ Hid (∀ i, i < k → okQ (L.getD i default)) ∧ Below w.heap.size w wr) (fun _ i _ => L.length - (intOf i).toNat)
  case atStart => exact ⟨0, Nat.zero_le _, rfl, rfl, Lib.hid (fun i hi => absurd hi (Nat.not_lt_zero _)), hb0⟩
  case round =>
    clear hb0
    obtain ⟨k, hk, rfl, rfl, HK, hb⟩ := hrel
    by_cases hlt : k < L.length
    · have hbd := cst_bd' f hf hf' L k hk HK.out
      have hst := cst_take f L hlt
      obtain ⟨b, off, rfl, hlb, q0, q1, q2⟩ := rdP HA.out hlt
      have c0 := (hb.cell (p := ⟨b, off + k * 3, none⟩) hlb).trans q0
      have c1 := (hb.cell (p := ⟨b, off + k * 3 + 1, none⟩) hlb).trans q1
      have c2 := (hb.cell (p := ⟨b, off + k * 3 + 2, none⟩) hlb).trans q2
      have i0 : (0 : Int) ≤ (k : Int) := by omega
      have i1 : (k : Int) < (L.length : Int) := by omega
      have hmem := getD_memL L default hlt
      clear q0 q1 q2
      by_cases hok : okQ (L.getD k default)
      · have hob := out_bd hf hf' hok
        have HK1 : Hid (∀ i, i < k + 1 → okQ (L.getD i default)) := Lib.hid (fun i hi => by
          by_cases e : i = k
          · subst e; exact hok
          · exact HK.out i (by omega))
        have hcq : cQ f (L.getD k default) = 3 * outQ f (L.getD k default) := rfl
        rw [hcq] at hst
        by_cases hk0 : k = 0
        · rw [if_pos hk0] at hst
          have hst' : cst (cQ f) dQ (L.take (k + 1)) = cst (cQ f) dQ (L.take k) + 3 * outQ f (L.getD k default) := by rw [hst]; omega
          have Hst := Lib.hid hst'
          have hkz : (k : Int) ≤ 0 := by omega
          clear hst hst' hcq hk0 hmem
          generalize cst (cQ f) dQ (L.take k) = S at *
          generalize L.getD k default = p at *
          obtain ⟨s, al, o⟩ := p
          dsimp only at c0 c1 c2
          go_wp2_with (first
            | (go_at_call 40; refine (check_ok _ _ _ _ hok).mono ?_; rintro e w1 ⟨rfl, hb1⟩; obtain ⟨hc1, hf1⟩ := bcell hb1; have hz1 := hb1.size; simp only [World.size_alloc] at hz1)
            | (go_at_call 29; refine (outside_any _ _ _ _ _ hok hf hf').mono ?_; rintro e w2 ⟨rfl, hb2⟩))
          go_roundw
          case rel => exact ⟨k + 1, by omega, by go_num, by rw [Hst.out], HK1, next0 (next1 hb hb1) hb2⟩
          case measure => simp [intOf]; omega
        · obtain ⟨m, rfl⟩ : ∃ m, k = m + 1 := ⟨k - 1, by omega⟩
          rw [if_neg hk0, Nat.add_sub_cancel] at hst
          have hltm : m < L.length := by omega
          have hokm := HK.out m (by omega)
          obtain ⟨b', off', eA, hlb', r0, r1, r2⟩ := rdP HA.out hltm
          obtain ⟨rfl, rfl⟩ : b' = b ∧ off' = off := by
            injection eA with eA
            injection eA with e1 e2
            exact ⟨e1.symm, e2.symm⟩
          have hdb := d_bd hokm hok
          have Hst := Lib.hid hst
          clear hst hcq eA hk0 hmem
          generalize cst (cQ f) dQ (L.take (m + 1)) = S at *
          generalize L.getD (m + 1) default = p at *
          generalize L.getD m default = q at *
          obtain ⟨s, al, o⟩ := p
          obtain ⟨s', al', o'⟩ := q
          dsimp only at c0 c1 c2 r0 r1 r2
          have m1 : IntKind.i64.wrap ((m : Int) + 1 - 1) = (m : Int) := by rw [show (m : Int) + 1 - 1 = (m : Int) from by omega]; exact IntWalk.i64_in _ (by omega)
          have hk1 : ((m + 1 : Nat) : Int) = (m : Int) + 1 := by omega
          have hcast : (0 : Int) < (m : Int) + 1 := by omega
          go_wp2_with (first
            | (go_at_call 40; refine (check_ok _ _ _ _ hok).mono ?_; rintro e w1 ⟨rfl, hb1⟩; obtain ⟨hc1, hf1⟩ := bcell hb1; have hz1 := hb1.size; simp only [World.size_alloc] at hz1)
            | (go_at_call 29; refine (outside_any _ _ _ _ _ hok hf hf').mono ?_; rintro e w2 ⟨rfl, hb2⟩))
          have hlw : b' < wr.heap.size := Nat.lt_of_lt_of_le hlb hb.size
          have hbr2 : Below wr.heap.size wr w2 := next0 (base1 hb1) hb2
          have hw12 : Below (wr.alloc (Obj.cells #[.int .i64 s, .int .i64 al, .int .i64 o] PIT)).heap.size (wr.alloc (Obj.cells #[.int .i64 s, .int .i64 al, .int .i64 o] PIT)) w2 := hb1.trans (hb2.mono hb1.size)
          have lc := fun (i : Nat) (v : Value) (h : wr.cell? ⟨b', i, none⟩ = some v) (sx : Later w2.heap.size w2) => later_cell ((hbr2.cell (p := ⟨b', i, none⟩) hlw).trans h) (Nat.lt_of_lt_of_le hlw hbr2.size) sx
          have f3 := lc _ _ ((hb.cell (p := ⟨b', off' + m * 3, none⟩) hlb).trans r0)
          have f4 := lc _ _ ((hb.cell (p := ⟨b', off' + m * 3 + 1, none⟩) hlb).trans r1)
          have f5 := lc _ _ ((hb.cell (p := ⟨b', off' + m * 3 + 2, none⟩) hlb).trans r2)
          have hbx : wr.heap.size < w2.heap.size := by have := hb2.size; omega
          have f0 : ∀ sx : Later w2.heap.size w2, sx.w.cell? ⟨wr.heap.size, 0, none⟩ = some (.int .i64 s) := fun sx => later_cell ((hw12.cell (p := ⟨wr.heap.size, 0, none⟩) (by simp)).trans (by simp)) hbx sx
          have f1 : ∀ sx : Later w2.heap.size w2, sx.w.cell? ⟨wr.heap.size, 1, none⟩ = some (.int .i64 al) := fun sx => later_cell ((hw12.cell (p := ⟨wr.heap.size, 1, none⟩) (by simp)).trans (by simp)) hbx sx
          have f2 : ∀ sx : Later w2.heap.size w2, sx.w.cell? ⟨wr.heap.size, 2, none⟩ = some (.int .i64 o) := fun sx => later_cell ((hw12.cell (p := ⟨wr.heap.size, 2, none⟩) (by simp)).trans (by simp)) hbx sx
          have m3 : IntKind.i64.wrap (1 * dQ (s', al', o') (s, al, o)) = dQ (s', al', o') (s, al, o) := by rw [Int.one_mul]; exact IntWalk.i64_in _ (by omega)
          have m4 : IntKind.i64.wrap (dQ (s', al', o') (s, al, o)) = dQ (s', al', o') (s, al, o) := IntWalk.i64_in _ (by omega)
          have m5 : IntKind.i64.wrap (S + 3 * outQ f (s, al, o) + dQ (s', al', o') (s, al, o)) = S + 3 * outQ f (s, al, o) + dQ (s', al', o') (s, al, o) := IntWalk.i64_in _ (by omega)
          have j0 : (0 : Int) ≤ (m : Int) := by omega
          have j1 : (m : Int) < (L.length : Int) := by omega
          clear lc c0 c1 c2 r0 r1 r2 hc1 hf1
          refine wp_region_later (by kernel_rfl) (by kernel_rfl) ?_
          repeat (go_big_quiet_step ((go_at_call 32; exact later_calls (Nat.le_refl _) (distance_any _ _ _ _ _ _ _ hokm hok))))
          refine wpQuiet_nil ?_
          intro w3 hb3
          clear f0 f1 f2 f3 f4 f5 m1 m3 m4 m5
          go_wp2
          go_roundw
          case rel => exact ⟨m + 1 + 1, by omega, by go_num, by rw [Hst.out]; congr 1; omega, HK1, next0 (next0 (next1 hb hb1) hb2) hb3⟩
          case measure => simp [intOf]; omega
      · have Hmem := Lib.hid (show ∃ p ∈ L, ¬ okQ p from ⟨_, hmem, hok⟩)
        clear hst hmem
        generalize L.getD k default = p at *
        obtain ⟨s, al, o⟩ := p
        dsimp only at c0 c1 c2
        have Hok : Hid (¬ okP s al o) := Lib.hid hok
        clear hok
        go_wp2_with (go_at_call 40; refine (check_bad _ _ _ _ Hok.out).mono ?_; rintro e w1 ⟨rfl, hb1⟩)
        go_returns
        refine ⟨next1 hb hb1, fun hall => ?_, fun _ => rfl⟩
        obtain ⟨p, hp, hn⟩ := Hmem.out
        exact absurd (hall p hp) hn
    · obtain rfl : k = L.length := by omega
      rw [List.take_length]
      go_wp2_with fail
      go_returns
      refine ⟨hb, fun _ => rfl, fun ⟨p, hp, hn⟩ => ?_⟩
      have := mem_take_ok HK.out p (by rw [List.take_length]; exact hp)
      exact absurd this hn
end Go.Proofs.Ytdmhjcnijebfgaa
