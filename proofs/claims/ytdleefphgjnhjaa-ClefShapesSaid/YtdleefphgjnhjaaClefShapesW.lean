/- The walk of hemiola/hemiolalaw08.ClefShapes: it returns true, and writes nothing that was there. -/
import Derived.Test.YtdleefphgjnhjaaKnown
import Derived.Test.YtdleefphgjnhjaaRefsig
import Derived.Test.YtdleefphgjnhjaaOpen
import Derived.OpenShut
namespace Go.Proofs.Ytdleefphgjnhjaa
open Go.RowKit
set_option linter.unusedVariables false
theorem shape_at {M low s : Int} (m0 : 15 ≤ M) (m1 : M ≤ 34) (l0 : -5 ≤ low) (l1 : low ≤ 0) (s0 : 0 ≤ s) (s6 : s ≤ 6) :
    dOk (M + place M low s) ∧ (M + place M low s) % 7 = s ∧ -200 ≤ place M low s ∧ place M low s ≤ 200 := by
  have h : (M + place M low s) % 7 = s := by unfold place; omega
  have hb := place_bd M low s
  refine ⟨⟨⟨by omega, by omega, by omega, by omega, by omega, by omega⟩, ?_⟩, h, by omega, by omega⟩
  rw [h]
  obtain ⟨x0, x1⟩ := semi_bd s0 s6
  unfold num
  omega
theorem shape_ne {M low s t : Int} (s0 : 0 ≤ s) (s6 : s ≤ 6) (t0 : 0 ≤ t) (t6 : t ≤ 6) (h : s ≠ t) : place M low s ≠ place M low t ∧ place M low s - place M low t ≤ 6 ∧ place M low t - place M low s ≤ 6 := by
  have h1 := place_bd M low s
  have h2 := place_bd M low t
  refine ⟨fun he => h ?_, by omega, by omega⟩
  unfold place at he
  omega
theorem take_facts {l : List Int} (hl : l = sharpL ∨ l = flatL) (n : Nat) :
    (∀ i (h : i < (l.take n).length), 0 ≤ (l.take n)[i] ∧ (l.take n)[i] ≤ 6) ∧ (∀ i j (hi : i < (l.take n).length) (hj : j < (l.take n).length), i ≠ j → (l.take n)[i] ≠ (l.take n)[j]) := by
  have hd : ∀ i j (hi : i < l.length) (hj : j < l.length), i ≠ j → l[i] ≠ l[j] := by
    have : ∀ i j : Fin l.length, i ≠ j → l[i] ≠ l[j] := by rcases hl with rfl | rfl <;> decide
    intro i j hi hj hne
    exact this ⟨i, hi⟩ ⟨j, hj⟩ (by simpa using hne)
  refine ⟨fun i h => ?_, fun i j hi hj hne => ?_⟩
  · rw [List.getElem_take]; exact stepL_bd hl _
  · rw [List.getElem_take, List.getElem_take]; exact hd _ _ _ _ hne

set_option maxRecDepth 100000 in
set_option maxHeartbeats 1000000 in
theorem walkShape (x a1 cv f low : Int) (S : List Int) (w : World) (x0 : 0 ≤ x) (x1 : x ≤ 255) (hcv : x % 9 + 1 = cv) (hf : a1.tmod 8 = f) (a10 : -128 ≤ a1) (a11 : a1 ≤ 127)
    (l0 : -5 ≤ low) (l1 : low ≤ 0) (hS : S.length ≤ 7) (hS6 : ∀ i (h : i < S.length), 0 ≤ S[i] ∧ S[i] ≤ 6) (hSd : ∀ i j (hi : i < S.length) (hj : j < S.length), i ≠ j → S[i] ≠ S[j])
    (Hs : Hid (∀ w, Calls Try.prog 21 #[.int .i64 cv, .int .i64 f] w fun e w' => ∃ v W, e = .returned (.tuple #[v, .int .i64 0]) ∧ Below w.heap.size w W ∧ AccI W w' v (S.map (place (kMid cv) low))))
    (Hr : Hid (∀ w, Calls Try.prog 23 #[.int .i64 f] w fun e w' => ∃ v, e = .returned v ∧ Got w w' v S)) :
    Calls Try.prog 8 #[.int .u8 x, .int .i8 a1] w fun e w' => e = .returned (.bool true) ∧ Below w.heap.size w w' := by
  have c1 : 1 ≤ cv := by omega
  have c9 : cv ≤ 9 := by omega
  obtain ⟨m0, m1⟩ := kMid_bd c1 c9
  have f0 : -7 ≤ f := by have := Int.lt_tmod_of_pos a1 (show (0 : Int) < 8 by omega); omega
  have f1 : f ≤ 7 := by have := Int.tmod_lt_of_pos a1 (show (0 : Int) < 8 by omega); omega
  have e1 : x.tmod 9 = x % 9 := Int.tmod_eq_emod_of_nonneg x0
  have e0 : 1 + x % 9 = cv := by omega
  obtain ⟨n, hn⟩ : ∃ n, n = S.length := ⟨_, rfl⟩
  have HS6 := Lib.hid hS6
  have HSd := Lib.hid hSd
  have Hn := Lib.hid hn
  have hn7 : n ≤ 7 := by omega
  have h3 : ((S.map (place (kMid cv) low))).length = n := by simp [hn]
  have H3 := Lib.hid h3
  clear hS6 hSd hn hcv hS h3
  go_enter Try.func8, Try.ntmps8
  go_wp2_with fail
  clear e0 e1 hf
  refine (Hs.out _).mono ?_
  rintro e w1 ⟨v, W, rfl, hbW, hacc⟩
  have B1 := next0 hbW hacc.below
  obtain ⟨A, c, hv, hc, _, R1⟩ := acc_form hacc
  rw [H3.out] at hv hc
  subst hv
  clear hacc hbW
  go_wp2_with fail
  refine (Hr.out _).mono ?_
  rintro e w2 ⟨v, rfl, hgot⟩
  have b2 := got_below hgot
  have B2 := next0 B1 b2
  have R12 := rd_below R1 b2
  obtain ⟨A2, c2, hv, hc2, _, R2⟩ := got_form hgot
  rw [← Hn.out] at hv hc2
  subst hv
  clear hgot
  go_wp2_with fail
  refine (known_any _).mono ?_
  rintro e w3 ⟨rfl, b3⟩
  have B3 := next0 B2 b3
  have R13 := rd_below R12 b3
  have R23 := rd_below R2 b3
  clear B1 B2 b2 b3 R1 R12 R2 Hs Hr
  go_wp2_with fail
  go_loopw [10] (fun i wr => ∃ k : Nat, k ≤ n ∧ i = .int .i64 (k : Int) ∧ Below w3.heap.size w3 wr) (fun i _ => n - (intOf i).toNat)
  case atStart => exact ⟨0, Nat.zero_le _, rfl, Below.refl _ _⟩
  case round =>
    obtain ⟨k, hk, rfl, hbr⟩ := hrel
    by_cases hlt : k < n
    · have hkS : k < S.length := by have := Hn.out; omega
      obtain ⟨s0, s6⟩ := HS6.out k hkS
      obtain ⟨q0, q1, q2, q3⟩ := shape_at (M := kMid cv) (low := low) m0 m1 l0 l1 s0 s6
      have Hat := Lib.hid (fun w => at_ok cv _ w c1 c9 q2 q3 q0)
      rw [q1] at Hat
      clear q0 q1 q2 q3
      obtain ⟨b, off, rfl, hbl, hcell⟩ := rd_pos R13 (by simp; omega)
      obtain ⟨b', off', rfl, hbl', hcell'⟩ := rd_pos R23 (by simp; omega)
      have xk : w3.cell? ⟨b, off + k, none⟩ = some (.int .i64 (place (kMid cv) low S[k])) := hcell k _ (by simp [hkS])
      have yk : w3.cell? ⟨b', off' + k, none⟩ = some (.int .i64 S[k]) := hcell' k _ (by simp [hkS])
      have xall : ∀ j (hj : j < S.length), w3.cell? ⟨b, off + j, none⟩ = some (.int .i64 (place (kMid cv) low S[j])) := fun j hj => hcell j _ (by simp [hj])
      have Xall := Lib.hid xall
      clear xall hcell hcell'
      have xr := (hbr.cell (p := ⟨b, off + k, none⟩) hbl).trans xk
      have yr := (hbr.cell (p := ⟨b', off' + k, none⟩) hbl').trans yk
      have hzr := hbr.size
      have i0 : (0 : Int) ≤ (k : Int) := by omega
      have i1 : (k : Int) < (n : Int) := by omega
      have pb := place_bd (kMid cv) low S[k]
      obtain ⟨pb0, pb1⟩ := pb
      clear xk yk
      obtain ⟨s, hs⟩ : ∃ s, s = S[k] := ⟨_, rfl⟩
      have Hsk := Lib.hid hs
      rw [← hs] at Hat xr yr pb0 pb1 s0 s6
      clear hs
      go_wp2_with fail
      refine (Hat.out _).mono ?_
      rintro e w5 ⟨rfl, hb5⟩
      have hz5 := hb5.size
      have y5 := (hb5.cell (p := ⟨b', off' + k, none⟩) (Nat.lt_of_lt_of_le hbl' hzr)).trans yr
      have bl5 : b' < w5.heap.size := by omega
      have B5 := next0 hbr hb5
      go_wp2_with fail
      go_quiet (fail)
      go_wp2_with fail
      clear xr yr y5
      go_loopw [13] (fun i wr => ∃ j m : Nat, j ≤ k ∧ i = .int .i64 (j : Int) ∧ wr = (World.alloc w5 (.cells #[.int .i64 s, .int .i64 0, .int .i64 ((kMid cv + place (kMid cv) low s) / 7)] 24)).drewN m) (fun i _ => k - (intOf i).toNat)
      case atStart => exact ⟨0, nq, Nat.zero_le _, rfl, rfl⟩
      case round =>
        obtain ⟨j, m, hj, rfl, rfl⟩ := hrel
        have bl : b < w5.heap.size := by omega
        by_cases hjk : j < k
        · have hjS : j < S.length := by omega
          obtain ⟨t0, t6⟩ := HS6.out j hjS
          have hne := HSd.out k j hkS hjS (by omega)
          rw [← Hsk.out] at hne
          obtain ⟨r0, r1, r2⟩ := shape_ne (M := kMid cv) (low := low) s0 s6 t0 t6 hne
          have xk := ((Below.refl w5.heap.size w5).alloc (Nat.le_refl _) (.cells #[.int .i64 s, .int .i64 0, .int .i64 ((kMid cv + place (kMid cv) low s) / 7)] 24)).cell (p := ⟨b, off + k, none⟩) bl
          rw [(B5.cell (p := ⟨b, off + k, none⟩) hbl), Xall.out k hkS, ← Hsk.out] at xk
          have xj := ((Below.refl w5.heap.size w5).alloc (Nat.le_refl _) (.cells #[.int .i64 s, .int .i64 0, .int .i64 ((kMid cv + place (kMid cv) low s) / 7)] 24)).cell (p := ⟨b, off + j, none⟩) bl
          rw [(B5.cell (p := ⟨b, off + j, none⟩) hbl), Xall.out j hjS] at xj
          have pj := place_bd (kMid cv) low S[j]
          obtain ⟨pj0, pj1⟩ := pj
          generalize S[j] = t at xj r0 r1 r2 t0 t6 pj0 pj1
          have g1 : (place (kMid cv) low s == place (kMid cv) low t) = false := by simpa using r0
          have g2 : IntKind.i64.wrap (place (kMid cv) low s - place (kMid cv) low t) = place (kMid cv) low s - place (kMid cv) low t := IntWalk.i64_in _ (by omega)
          have g3 : IntKind.i64.wrap (place (kMid cv) low t - place (kMid cv) low s) = place (kMid cv) low t - place (kMid cv) low s := IntWalk.i64_in _ (by omega)
          have g4 : decide (6 < place (kMid cv) low s - place (kMid cv) low t) = false := by simp; omega
          have g5 : decide (6 < place (kMid cv) low t - place (kMid cv) low s) = false := by simp; omega
          have j0 : (0 : Int) ≤ (j : Int) := by omega
          have j1 : (j : Int) < (n : Int) := by omega
          have j2 : (j : Int) < (k : Int) := by omega
          clear hne r0 r1 r2
          go_wp2
          go_quiet (fail)
          go_wp2
          go_roundw
          case rel => exact ⟨j + 1, _, by omega, by go_num, rfl⟩
          case measure => simp [intOf]; omega
        · obtain rfl : j = k := by omega
          have j2 : ¬ (j : Int) < (j : Int) := by omega
          go_wp2
          go_roundw
          case rel => exact ⟨j + 1, by omega, by go_num, below_dn (B5.alloc (by omega) _) _⟩
          case measure => simp [intOf]; omega
    · obtain rfl : k = n := by omega
      go_wp2
      go_returns
      exact ⟨rfl, next0 B3 hbr⟩
theorem walkClefShapes (x : Int) (wx : (Lit.int .u8 x).wf = true) (a1 : Int) (w1 : (Lit.int .i8 a1).wf = true) (w : World) :
    Calls Try.prog 8 #[.int .u8 x, .int .i8 a1] w fun e w' => e = .returned (.bool true) ∧ Below w.heap.size w w' := by
  obtain ⟨x0, x1⟩ := bounds_u8 wx
  obtain ⟨y0, y1⟩ := bounds_i8 w1
  have c1 : 1 ≤ x % 9 + 1 := by omega
  have c9 : x % 9 + 1 ≤ 9 := by omega
  obtain ⟨l0, l1, l2, l3⟩ := kLow_bd c1 c9
  have f0 : -7 ≤ a1.tmod 8 := by have := Int.lt_tmod_of_pos a1 (show (0 : Int) < 8 by omega); omega
  have f1 : a1.tmod 8 ≤ 7 := by have := Int.tmod_lt_of_pos a1 (show (0 : Int) < 8 by omega); omega
  by_cases hs : 0 ≤ a1.tmod 8
  · obtain ⟨n, hn⟩ : ∃ n : Nat, a1.tmod 8 = (n : Int) := ⟨(a1.tmod 8).toNat, by omega⟩
    have hn7 : n ≤ 7 := by omega
    obtain ⟨h6, hd⟩ := take_facts (l := sharpL) (.inl rfl) n
    exact walkShape x a1 _ (n : Int) _ (sharpL.take n) w x0 x1 rfl hn y0 y1 l0 l1 (by simp; omega) h6 hd (fun w => sig_sharp _ n w c1 c9 hn7) (fun w => steps_sharp n w hn7)
  · obtain ⟨n, hn⟩ : ∃ n : Nat, a1.tmod 8 = -(n : Int) := ⟨(-(a1.tmod 8)).toNat, by omega⟩
    have hn7 : n ≤ 7 := by omega
    have hn0 : 0 < n := by omega
    obtain ⟨h6, hd⟩ := take_facts (l := flatL) (.inr rfl) n
    exact walkShape x a1 _ (-(n : Int)) _ (flatL.take n) w x0 x1 rfl hn y0 y1 l2 l3 (by simp; omega) h6 hd (fun w => sig_flat _ n w c1 c9 hn0 hn7) (fun w => steps_flat n w hn0 hn7)
end Go.Proofs.Ytdleefphgjnhjaa
