/- The cost of a chord, of the package and of the reference; Clone of a slice of pitches: contracts. -/
import Derived.Test.YtdmhjcnijebfgaaSref9
namespace Go.Proofs.Ytdmhjcnijebfgaa
open Go.RowKit
set_option linter.unusedVariables false

/-- The lowest and the highest place among the first k, the sum of what is outside. -/
def loT (L : List Pit) : Nat → Int
  | 0 => fifQ (L.getD 0 default)
  | k + 1 => min (loT L k) (fifQ (L.getD k default))
def hiT (L : List Pit) : Nat → Int
  | 0 => fifQ (L.getD 0 default)
  | k + 1 => max (hiT L k) (fifQ (L.getD k default))
def suT (f : Int) (L : List Pit) : Nat → Int
  | 0 => 0
  | k + 1 => suT f L k + 3 * outQ f (L.getD k default)
/-- What spellings of a chord are compared by. -/
def wtQ (f : Int) (L : List Pit) : Int := 100 * (hiT L L.length - loT L L.length) + suT f L L.length
theorem lohi_bd (L : List Pit) (hL : ∀ p ∈ L, okQ p) (h0 : 0 < L.length) : ∀ k, k ≤ L.length → (-15 ≤ loT L k ∧ loT L k ≤ 19) ∧ (-15 ≤ hiT L k ∧ hiT L k ≤ 19) := by
  intro k
  induction k with
  | zero => intro _; have := fif_bd (hL _ (getD_memL L default h0)); exact ⟨this, this⟩
  | succ k ih =>
    intro hk
    have h1 := ih (by omega)
    have h2 := fif_bd (hL _ (getD_memL L default (i := k) (by omega)))
    have h3 : -15 ≤ fifQ (L.getD k default) ∧ fifQ (L.getD k default) ≤ 19 := h2
    show (-15 ≤ min (loT L k) _ ∧ min (loT L k) _ ≤ 19) ∧ (-15 ≤ max (hiT L k) _ ∧ max (hiT L k) _ ≤ 19)
    omega
theorem su_bd (f : Int) (hf : -7 ≤ f) (hf' : f ≤ 7) (L : List Pit) (hL : ∀ p ∈ L, okQ p) : ∀ k, k ≤ L.length → 0 ≤ suT f L k ∧ suT f L k ≤ 63 * (k : Int) := by
  intro k
  induction k with
  | zero => intro _; exact ⟨Int.le_refl _, by show (0 : Int) ≤ 63 * ((0 : Nat) : Int); omega⟩
  | succ k ih =>
    intro hk
    have h1 := ih (by omega)
    have h2 := out_bd hf hf' (hL _ (getD_memL L default (i := k) (by omega)))
    show 0 ≤ suT f L k + 3 * outQ f _ ∧ suT f L k + 3 * outQ f _ ≤ _
    omega
set_option maxHeartbeats 4000000 in
theorem ccost_any (A : Option Addr) (c : Nat) (L : List Pit) (f : Int) (w : World) (hf : -7 ≤ f) (hf' : f ≤ 7) (hA : Rd w w.heap.size A (pitsC L)) (h0 : 0 < L.length) (hn : L.length ≤ 100) (hL : ∀ p ∈ L, okQ p) :
    Calls Try.prog 44 #[.slice A L.length c, .int .i64 f] w fun e w' => e = .returned (.int .i64 (wtQ f L)) ∧ Below w.heap.size w w' := by
  obtain ⟨b, off, rfl, hlb, q0, q1, q2⟩ := rdP hA h0
  rw [Nat.zero_mul, Nat.add_zero] at q0 q1 q2
  have hok0 := hL _ (getD_memL L default h0)
  have l0 : loT L 0 = fifQ (L.getD 0 default) := rfl
  have h00 : hiT L 0 = fifQ (L.getD 0 default) := rfl
  have HA := Lib.hid hA
  have HL := Lib.hid hL
  have Hlh := Lib.hid (lohi_bd L hL h0)
  have Hsu := Lib.hid (su_bd f hf hf' L hL)
  have cp0 : (0 : Int) < (L.length : Int) := by omega
  have hq : ∃ p, p = L.getD 0 default := ⟨_, rfl⟩
  obtain ⟨p, hp⟩ := hq
  rw [← hp] at q0 q1 q2 hok0 l0 h00
  obtain ⟨s, al, o⟩ := p
  have Hl0 := Lib.hid l0
  have Hh0 := Lib.hid h00
  have f0 : ∀ sx : Later w.heap.size w, sx.w.cell? ⟨b, off, none⟩ = some (.int .i64 s) := fun sx => later_cell q0 hlb sx
  have f1 : ∀ sx : Later w.heap.size w, sx.w.cell? ⟨b, off + 1, none⟩ = some (.int .i64 al) := fun sx => later_cell q1 hlb sx
  have f2 : ∀ sx : Later w.heap.size w, sx.w.cell? ⟨b, off + 2, none⟩ = some (.int .i64 o) := fun sx => later_cell q2 hlb sx
  have Hok0 : Hid (okP s al o) := Lib.hid hok0
  clear hA hL l0 h00 hok0 hp q0 q1 q2
  go_enter Try.func44, Try.ntmps44
  go_wp2_with fail
  refine wp_region_later (by kernel_rfl) (by kernel_rfl) ?_
  repeat (go_big_quiet_step ((go_at_call 47; exact later_calls (Nat.le_refl _) (place_any _ _ _ _ Hok0.out))))
  refine wpQuiet_nil ?_
  intro w1 hb1
  clear f0 f1 f2
  go_wp2_with fail
  go_loopw [5, 6, 7, 20] (fun lo hi su i wr => ∃ k : Nat, k ≤ L.length ∧ i = .int .i64 (k : Int) ∧ lo = .int .i64 (loT L k) ∧ hi = .int .i64 (hiT L k) ∧ su = .int .i64 (suT f L k) ∧ Below w.heap.size w wr) (fun _ _ _ i _ => L.length - (intOf i).toNat)
  case atStart => exact ⟨0, by omega, rfl, by rw [Hl0.out]; rfl, by rw [Hh0.out]; rfl, rfl, hb1⟩
  case round =>
    clear Hl0 Hh0 Hok0
    obtain ⟨k, hk, rfl, rfl, rfl, rfl, hb⟩ := hrel
    have hlo := Hlh.out k hk
    have hsu := Hsu.out k hk
    by_cases hlt : k < L.length
    · have k0 : (0 : Int) ≤ (k : Int) := by omega
      have k1 : (k : Int) < (L.length : Int) := by omega
      obtain ⟨b', off', eA, hlb', q0, q1, q2⟩ := rdP HA.out hlt
      obtain ⟨rfl, rfl⟩ : b' = b ∧ off' = off := by
        injection eA with eA
        injection eA with e1 e2
        exact ⟨e1.symm, e2.symm⟩
      have hok := HL.out _ (getD_memL L default hlt)
      have l1 : loT L (k + 1) = min (loT L k) (fifQ (L.getD k default)) := rfl
      have l2 : hiT L (k + 1) = max (hiT L k) (fifQ (L.getD k default)) := rfl
      have l3 : suT f L (k + 1) = suT f L k + 3 * outQ f (L.getD k default) := rfl
      generalize L.getD k default = p at *
      obtain ⟨s, al, o⟩ := p
      have c0 := (hb.cell (p := ⟨b', off' + k * 3, none⟩) hlb').trans q0
      have c1 := (hb.cell (p := ⟨b', off' + k * 3 + 1, none⟩) hlb').trans q1
      have c2 := (hb.cell (p := ⟨b', off' + k * 3 + 2, none⟩) hlb').trans q2
      have hfx := fif_bd hok
      have hobx := out_bd hf hf' hok
      try dsimp only at hfx c0 c1 c2
      have Hok : Hid (okP s al o) := Lib.hid hok
      have H1 : Hid (loT L (k + 1) = min (loT L k) (fif s al)) := Lib.hid l1
      have H2 : Hid (hiT L (k + 1) = max (hiT L k) (fif s al)) := Lib.hid l2
      have H3 := Lib.hid l3
      clear l1 l2 l3 hok eA q0 q1 q2
      generalize loT L k = lo at *
      generalize hiT L k = hi at *
      generalize suT f L k = su at *
      go_wp2_with fail
      obtain ⟨g0, g1, g2⟩ := later_box3 wr (.int .i64 s) (.int .i64 al) (.int .i64 o) PIT
      refine wp_region_later (by kernel_rfl) (by kernel_rfl) ?_
      repeat (go_big_quiet_step ((go_at_call 47; exact later_calls (Nat.le_refl _) (place_any _ _ _ _ Hok.out))))
      refine wpQuiet_nil ?_
      intro w5 hb5
      have c0 := g0 ⟨w5, hb5⟩
      have c1 := g1 ⟨w5, hb5⟩
      have c2 := g2 ⟨w5, hb5⟩
      clear g0 g1 g2
      have m1 : (if fif s al < lo then fif s al else lo) = min lo (fif s al) := by split <;> omega
      have m2 : (if hi < fif s al then fif s al else hi) = max hi (fif s al) := by split <;> omega
      rw [m1, m2]
      clear m1 m2
      have nlo : -15 ≤ min lo (fif s al) ∧ min lo (fif s al) ≤ 19 := by omega
      have nhi : -15 ≤ max hi (fif s al) ∧ max hi (fif s al) ≤ 19 := by omega
      rw [← H1.out] at nlo ⊢
      rw [← H2.out] at nhi ⊢
      have HH := Lib.hid (And.intro H1.out H2.out)
      clear H1 H2
      go_wp2_with ((go_at_call 29; refine (outside_any _ _ _ _ _ Hok.out hf hf').mono ?_; rintro e w2 ⟨rfl, hb2⟩))
      go_roundw
      case rel => exact ⟨k + 1, by omega, by go_num, rfl, rfl, by rw [H3.out], next0 (next1 hb hb5) hb2⟩
      case measure => simp [intOf]; omega
    · obtain rfl : k = L.length := by omega
      have hW : wtQ f L = 100 * (hiT L L.length - loT L L.length) + suT f L L.length := rfl
      have HW := Lib.hid hW
      clear hW
      generalize loT L L.length = lo at *
      generalize hiT L L.length = hi at *
      generalize suT f L L.length = su at *
      go_wp2_with fail
      go_returns
      exact ⟨by rw [HW.out]; rfl, hb⟩
set_option maxHeartbeats 4000000 in
theorem weight_any (A : Option Addr) (c : Nat) (L : List Pit) (f : Int) (w : World) (hf : -7 ≤ f) (hf' : f ≤ 7) (hA : Rd w w.heap.size A (pitsC L)) (h0 : 0 < L.length) (hn : L.length ≤ 100) (hL : ∀ p ∈ L, okQ p) :
    Calls Try.prog 46 #[.slice A L.length c, .int .i64 f] w fun e w' => e = .returned (.int .i64 (wtQ f L)) ∧ Below w.heap.size w w' := by
  have HA := Lib.hid hA
  have HL := Lib.hid hL
  have Hsu := Lib.hid (su_bd f hf hf' L hL)
  clear hA hL
  go_enter Try.func46, Try.ntmps46
  go_wp2_with fail
  go_loopw [5, 6, 7, 8] (fun su lo hi i wr => ∃ (k : Nat) (lo' hi' : Int), k ≤ L.length ∧ i = .int .i64 (k : Int) ∧ lo = .int .i64 lo' ∧ hi = .int .i64 hi' ∧ su = .int .i64 (suT f L k) ∧ ((-15 ≤ lo' ∧ lo' ≤ 19) ∧ (-15 ≤ hi' ∧ hi' ≤ 19)) ∧ Hid (k ≠ 0 → lo' = loT L k ∧ hi' = hiT L k) ∧ Below w.heap.size w wr) (fun _ _ _ i _ => L.length - (intOf i).toNat)
  case atStart => exact ⟨0, 0, 0, by omega, rfl, rfl, rfl, rfl, by omega, Lib.hid (fun h => absurd rfl h), Below.refl _ _⟩
  case round =>
    obtain ⟨k, lo, hi, hk, rfl, rfl, rfl, rfl, hlo, HI, hb⟩ := hrel
    have hsu := Hsu.out k hk
    by_cases hlt : k < L.length
    · have k0 : (0 : Int) ≤ (k : Int) := by omega
      have k1 : (k : Int) < (L.length : Int) := by omega
      obtain ⟨b', off', rfl, hlb', q0, q1, q2⟩ := rdP HA.out hlt
      have hlw : b' < wr.heap.size := Nat.lt_of_lt_of_le hlb' hb.size
      have hok := HL.out _ (getD_memL L default hlt)
      have l0 : k = 0 → loT L k = fifQ (L.getD k default) ∧ hiT L k = fifQ (L.getD k default) := fun e => by subst e; exact ⟨rfl, rfl⟩
      have l1 : loT L (k + 1) = min (loT L k) (fifQ (L.getD k default)) := rfl
      have l2 : hiT L (k + 1) = max (hiT L k) (fifQ (L.getD k default)) := rfl
      have l3 : suT f L (k + 1) = suT f L k + 3 * outQ f (L.getD k default) := rfl
      generalize L.getD k default = p at *
      obtain ⟨s, al, o⟩ := p
      have c0 := (hb.cell (p := ⟨b', off' + k * 3, none⟩) hlb').trans q0
      have c1 := (hb.cell (p := ⟨b', off' + k * 3 + 1, none⟩) hlb').trans q1
      have c2 := (hb.cell (p := ⟨b', off' + k * 3 + 2, none⟩) hlb').trans q2
      have hfx := fif_bd hok
      have hobx := out_bd hf hf' hok
      try dsimp only at hfx c0 c1 c2
      have Hok : Hid (okP s al o) := Lib.hid hok
      have H0 : Hid (k = 0 → loT L k = fif s al ∧ hiT L k = fif s al) := Lib.hid l0
      have H1 : Hid (loT L (k + 1) = min (loT L k) (fif s al)) := Lib.hid l1
      have H2 : Hid (hiT L (k + 1) = max (hiT L k) (fif s al)) := Lib.hid l2
      have H3 := Lib.hid l3
      clear l0 l1 l2 l3 hok q0 q1 q2
      generalize suT f L k = su at *
      by_cases hz : k = 0
      · have hz' : ((k : Int) == 0) = true := by rw [beq_iff_eq]; omega
        have Hz := Lib.hid hz
        clear hz
        go_wp2_with (first | (go_at_call 38; refine (rfifths_any _ _ _ _ Hok.out.1).mono ?_; rintro e w1 ⟨rfl, hb1⟩; have g0 := (hb1.cell (p := ⟨b', off' + k * 3, none⟩) hlw).trans c0; have g1 := (hb1.cell (p := ⟨b', off' + k * 3 + 1, none⟩) hlw).trans c1; have g2 := (hb1.cell (p := ⟨b', off' + k * 3 + 2, none⟩) hlw).trans c2) | (go_at_call 36; refine (routside_any _ _ _ _ _ Hok.out hf hf').mono ?_; rintro e w2 ⟨rfl, hb2⟩))
        go_roundw
        case rel => exact ⟨k + 1, fif s al, fif s al, by omega, by go_num, rfl, rfl, by rw [H3.out], by omega, Lib.hid (fun _ => by have := H0.out Hz.out; rw [H1.out, H2.out, this.1, this.2]; omega), next0 (next0 hb hb1) hb2⟩
        case measure => simp [intOf]; omega
      · have hz' : ((k : Int) == 0) = false := by rw [beq_eq_false_iff_ne]; omega
        by_cases hl : fif s al < lo
        · by_cases hh : hi < fif s al
          · go_wp2_with (first | (go_at_call 38; refine (rfifths_any _ _ _ _ Hok.out.1).mono ?_; rintro e w1 ⟨rfl, hb1⟩; have g0 := (hb1.cell (p := ⟨b', off' + k * 3, none⟩) hlw).trans c0; have g1 := (hb1.cell (p := ⟨b', off' + k * 3 + 1, none⟩) hlw).trans c1; have g2 := (hb1.cell (p := ⟨b', off' + k * 3 + 2, none⟩) hlw).trans c2) | (go_at_call 36; refine (routside_any _ _ _ _ _ Hok.out hf hf').mono ?_; rintro e w2 ⟨rfl, hb2⟩))
            go_roundw
            case rel => exact ⟨k + 1, fif s al, fif s al, by omega, by go_num, rfl, rfl, by rw [H3.out], by omega, Lib.hid (fun _ => ⟨by have := HI.out hz; rw [H1.out, ← this.1]; omega, by have := HI.out hz; rw [H2.out, ← this.2]; omega⟩), next0 (next0 hb hb1) hb2⟩
            case measure => simp [intOf]; omega
          · go_wp2_with (first | (go_at_call 38; refine (rfifths_any _ _ _ _ Hok.out.1).mono ?_; rintro e w1 ⟨rfl, hb1⟩; have g0 := (hb1.cell (p := ⟨b', off' + k * 3, none⟩) hlw).trans c0; have g1 := (hb1.cell (p := ⟨b', off' + k * 3 + 1, none⟩) hlw).trans c1; have g2 := (hb1.cell (p := ⟨b', off' + k * 3 + 2, none⟩) hlw).trans c2) | (go_at_call 36; refine (routside_any _ _ _ _ _ Hok.out hf hf').mono ?_; rintro e w2 ⟨rfl, hb2⟩))
            go_roundw
            case rel => exact ⟨k + 1, fif s al, hi, by omega, by go_num, rfl, rfl, by rw [H3.out], by omega, Lib.hid (fun _ => ⟨by have := HI.out hz; rw [H1.out, ← this.1]; omega, by have := HI.out hz; rw [H2.out, ← this.2]; omega⟩), next0 (next0 hb hb1) hb2⟩
            case measure => simp [intOf]; omega
        · by_cases hh : hi < fif s al
          · go_wp2_with (first | (go_at_call 38; refine (rfifths_any _ _ _ _ Hok.out.1).mono ?_; rintro e w1 ⟨rfl, hb1⟩; have g0 := (hb1.cell (p := ⟨b', off' + k * 3, none⟩) hlw).trans c0; have g1 := (hb1.cell (p := ⟨b', off' + k * 3 + 1, none⟩) hlw).trans c1; have g2 := (hb1.cell (p := ⟨b', off' + k * 3 + 2, none⟩) hlw).trans c2) | (go_at_call 36; refine (routside_any _ _ _ _ _ Hok.out hf hf').mono ?_; rintro e w2 ⟨rfl, hb2⟩))
            go_roundw
            case rel => exact ⟨k + 1, lo, fif s al, by omega, by go_num, rfl, rfl, by rw [H3.out], by omega, Lib.hid (fun _ => ⟨by have := HI.out hz; rw [H1.out, ← this.1]; omega, by have := HI.out hz; rw [H2.out, ← this.2]; omega⟩), next0 (next0 hb hb1) hb2⟩
            case measure => simp [intOf]; omega
          · go_wp2_with (first | (go_at_call 38; refine (rfifths_any _ _ _ _ Hok.out.1).mono ?_; rintro e w1 ⟨rfl, hb1⟩; have g0 := (hb1.cell (p := ⟨b', off' + k * 3, none⟩) hlw).trans c0; have g1 := (hb1.cell (p := ⟨b', off' + k * 3 + 1, none⟩) hlw).trans c1; have g2 := (hb1.cell (p := ⟨b', off' + k * 3 + 2, none⟩) hlw).trans c2) | (go_at_call 36; refine (routside_any _ _ _ _ _ Hok.out hf hf').mono ?_; rintro e w2 ⟨rfl, hb2⟩))
            go_roundw
            case rel => exact ⟨k + 1, lo, hi, by omega, by go_num, rfl, rfl, by rw [H3.out], by omega, Lib.hid (fun _ => ⟨by have := HI.out hz; rw [H1.out, ← this.1]; omega, by have := HI.out hz; rw [H2.out, ← this.2]; omega⟩), next0 (next0 hb hb1) hb2⟩
            case measure => simp [intOf]; omega
    · obtain rfl : k = L.length := by omega
      have hne : L.length ≠ 0 := by omega
      have hW : wtQ f L = 100 * (hi - lo) + suT f L L.length := by rw [(HI.out hne).1, (HI.out hne).2]; rfl
      have HW := Lib.hid hW
      clear hW hne
      generalize suT f L L.length = su at *
      go_wp2_with fail
      go_returns
      exact ⟨by rw [HW.out]; rfl, hb⟩
end Go.Proofs.Ytdmhjcnijebfgaa
