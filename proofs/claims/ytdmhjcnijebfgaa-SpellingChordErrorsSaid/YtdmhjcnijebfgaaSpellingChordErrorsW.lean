/- The walk of hemiola/hemiolalaw09.SpellingChordErrors: it returns true, and writes nothing that was there. -/
import Derived.Test.YtdmhjcnijebfgaaScherr
import Derived.Test.YtdmhjcnijebfgaaSopen
import Derived.OpenShut
namespace Go.Proofs.Ytdmhjcnijebfgaa
open Go.RowKit
set_option linter.unusedVariables false
theorem rd_takeC {w : World} {B : Nat} {A : Option Addr} {l : List Int} (h : Rd w B A (ints l)) (m : Nat) : Rd w B A (ints (l.take m)) := by
  rcases h with h | ⟨b, off, hA, hB, hc⟩
  · have : l = [] := by cases l with | nil => rfl | cons _ _ => cases h
    subst this
    exact .inl (by rw [List.take_nil]; rfl)
  · refine .inr ⟨b, off, hA, hB, fun j u hu => hc j u ?_⟩
    have hj : j < m := by
      have := (List.getElem?_eq_some_iff.1 hu).1
      rw [List.length_map, List.length_take] at this; omega
    rw [List.getElem?_map, List.getElem?_take_of_lt hj] at hu
    rw [List.getElem?_map]; exact hu
set_option maxRecDepth 100000 in
set_option maxHeartbeats 8000000 in
theorem walkSpellingChordErrors {w : World} (A : Option Addr) (len cap : Nat) (L0 : List Int) (h0 : len ≤ cap ∧ cap ≤ maxLen ∧ L0.length = len ∧ Rd w w.heap.size A (ints L0) ∧ ∀ n ∈ L0, (Lit.int .i64 n).wf = true) (f : Int) (_wf : (Lit.int .i64 f).wf = true) (_w : World) :
    Calls Try.prog 10 #[.slice A len cap, .int .i64 f] w fun e w' => e = .returned (.bool true) ∧ Below w.heap.size w w' := by
  obtain ⟨hlc, hcm, rfl, hrd, h5⟩ := h0
  clear h5 _wf
  obtain ⟨n, hn⟩ : ∃ n, n = min L0.length 14 := ⟨_, rfl⟩
  have hL : (L0.take n).length = n := by rw [List.length_take]; omega
  have hrd1 := rd_takeC hrd n
  generalize hLL : L0.take n = L at *
  have hn14 : n ≤ 14 := by omega
  have hncap : (n : Int) ≤ (cap : Int) := by omega
  have hmn : (if (14 : Int) < (L0.length : Int) then 14 else (L0.length : Int)) = (n : Int) := by split <;> omega
  have cs := chord_any A cap L f w hrd1 (by omega)
  rw [hL] at cs
  have HL := Lib.hid hL
  have HA := Lib.hid hrd1
  have n0 : (0 : Int) ≤ (n : Int) := by omega
  clear hL hrd1 hrd hLL hcm hn hlc
  go_enter Try.func10, Try.ntmps10
  go_wp2_with fail
  refine cs.mono ?_
  rintro e w1 ⟨hb1, A2, c2, n2, x, rfl, hE, hx0, hx1⟩
  clear cs hmn
  have HE := Lib.hid (And.intro hE (And.intro hx0 hx1))
  clear hE hx0 hx1
  go_wp2_with (go_at_call 14; refine (known_any _).mono ?_; rintro e w3 ⟨rfl, hb3⟩)
  have hbw : Below w.heap.size w w3 := next0 hb1 hb3
  go_loopw [7, 8, 9] (fun wv rv i wr => ∃ (k : Nat) (v : Int) (b : Bool), k ≤ n ∧ i = .int .i64 (k : Int) ∧ wv = .int .i64 v ∧ rv = .bool b ∧ Hid (EI L k v b) ∧ Below w3.heap.size w3 wr) (fun _ _ i _ => n - (intOf i).toNat)
  case atStart => exact ⟨0, 0, true, by omega, rfl, rfl, rfl, Lib.hid (EI.start L), Below.refl _ _⟩
  case round =>
    obtain ⟨k, v, bb, hk, rfl, rfl, rfl, HI, hb⟩ := hrel
    by_cases hlt : k < n
    · have k0 : (0 : Int) ≤ (k : Int) := by omega
      have k1 : (k : Int) < (n : Int) := by omega
      have hltL : k < L.length := by rw [HL.out]; exact hlt
      have hAw := rd_below (rd_below HA.out hbw) hb
      obtain ⟨b, off, rfl, hlb, q1⟩ := rdI hAw hltL
      have HN := Lib.hid HI.out.next
      rcases Nat.eq_zero_or_pos k with hz | hz
      · subst hz
        rw [Nat.add_zero] at q1
        have hk2 : ¬ (0 < 0 ∧ L.getD 0 0 ≤ L.getD (0 - 1) 0) := fun h => absurd h.1 (by decide)
        generalize L.getD 0 0 = x1 at *
        have hx : x1 < 0 ∨ (0 ≤ x1 ∧ 127 < x1) ∨ (0 ≤ x1 ∧ x1 ≤ 127) := by omega
        rcases hx with hx | ⟨hx, hx2⟩ | ⟨hx, hx2⟩
        · have HN1 := HN.out
          rw [if_pos (.inl hx), if_neg hk2] at HN1
          have HN2 := Lib.hid HN1
          clear HN1 HN HI hk2 hAw
          go_wp2_with fail
          refine wp_region_later (by kernel_rfl) (by kernel_rfl) ?_
          repeat (go_big_quiet_step (fail))
          refine wpQuiet_nil ?_
          intro w5 hb5
          go_wp2
          go_roundw
          case rel => exact ⟨1, 2, bb, by omega, by go_num, rfl, rfl, HN2, next0 hb hb5⟩
          case measure => simp [intOf]; omega
        · have HN1 := HN.out
          rw [if_pos (.inr hx2), if_neg hk2] at HN1
          have HN2 := Lib.hid HN1
          clear HN1 HN HI hk2 hAw
          go_wp2_with fail
          refine wp_region_later (by kernel_rfl) (by kernel_rfl) ?_
          repeat (go_big_quiet_step (fail))
          refine wpQuiet_nil ?_
          intro w5 hb5
          go_wp2
          go_roundw
          case rel => exact ⟨1, 2, bb, by omega, by go_num, rfl, rfl, HN2, next0 hb hb5⟩
          case measure => simp [intOf]; omega
        · have HN1 := HN.out
          rw [if_neg (by omega), if_neg hk2] at HN1
          have HN2 := Lib.hid HN1
          clear HN1 HN HI hk2 hAw
          go_wp2_with fail
          refine wp_region_later (by kernel_rfl) (by kernel_rfl) ?_
          repeat (go_big_quiet_step (fail))
          refine wpQuiet_nil ?_
          intro w5 hb5
          go_wp2
          go_roundw
          case rel => exact ⟨1, v, bb, by omega, by go_num, rfl, rfl, HN2, next0 hb hb5⟩
          case measure => simp [intOf]; omega
      · obtain ⟨m, rfl⟩ : ∃ m, k = m + 1 := ⟨k - 1, by omega⟩
        obtain ⟨b', off', eA, _, q0⟩ := rdI hAw (k := m) (by omega)
        obtain ⟨rfl, rfl⟩ : b' = b ∧ off' = off := by
          injection eA with eA
          injection eA with e1 e2
          exact ⟨e1.symm, e2.symm⟩
        have f1 : ∀ sx : Later wr.heap.size wr, sx.w.cell? ⟨b', off' + (m + 1), none⟩ = some (.int .i64 (L.getD (m + 1) 0)) := fun sx => later_cell q1 hlb sx
        have f0 : ∀ sx : Later wr.heap.size wr, sx.w.cell? ⟨b', off' + m, none⟩ = some (.int .i64 (L.getD m 0)) := fun sx => later_cell q0 hlb sx
        have hk1' : ((m + 1 : Nat) : Int) = (m : Int) + 1 := by omega
        rw [hk1'] at k0 k1 ⊢
        have z0 : (0 : Int) < (m : Int) + 1 := by omega
        have z1 : (0 : Int) ≤ (m : Int) := by omega
        have z2 : (m : Int) < (n : Int) := by omega
        have kn : ((m : Int) + 1).toNat = m + 1 := by omega
        have i2 : IntKind.i64.wrap ((m : Int) + 1 - 1) = (m : Int) := by rw [show (m : Int) + 1 - 1 = (m : Int) from by omega]; exact IntWalk.i64_in _ (by omega)
        have hpos : 0 < m + 1 := Nat.succ_pos _
        have HN := HN.out
        rw [Nat.add_sub_cancel] at HN
        have HN := Lib.hid HN
        clear eA q0 hk1' hAw
        generalize L.getD (m + 1) 0 = x1 at *
        generalize L.getD m 0 = x0 at *
        have hx : x1 < 0 ∨ (0 ≤ x1 ∧ 127 < x1) ∨ (0 ≤ x1 ∧ x1 ≤ 127) := by omega
        by_cases hle : x1 ≤ x0
        · rcases hx with hx | ⟨hx, hx2⟩ | ⟨hx, hx2⟩
          · have HN1 := HN.out
            rw [if_pos (.inl hx), if_pos ⟨hpos, hle⟩] at HN1
            have HN2 := Lib.hid HN1
            clear HN1 HN HI
            go_wp2_with fail
            refine wp_region_later (by kernel_rfl) (by kernel_rfl) ?_
            repeat (go_big_quiet_step (fail))
            refine wpQuiet_nil ?_
            intro w5 hb5
            clear f0 f1
            go_wp2
            go_roundw
            case rel => exact ⟨m + 1 + 1, 2, false, by omega, by go_num, rfl, rfl, HN2, next0 hb hb5⟩
            case measure => simp [intOf]; omega
          · have HN1 := HN.out
            rw [if_pos (.inr hx2), if_pos ⟨hpos, hle⟩] at HN1
            have HN2 := Lib.hid HN1
            clear HN1 HN HI
            go_wp2_with fail
            refine wp_region_later (by kernel_rfl) (by kernel_rfl) ?_
            repeat (go_big_quiet_step (fail))
            refine wpQuiet_nil ?_
            intro w5 hb5
            clear f0 f1
            go_wp2
            go_roundw
            case rel => exact ⟨m + 1 + 1, 2, false, by omega, by go_num, rfl, rfl, HN2, next0 hb hb5⟩
            case measure => simp [intOf]; omega
          · have HN1 := HN.out
            rw [if_neg (by omega), if_pos ⟨hpos, hle⟩] at HN1
            have HN2 := Lib.hid HN1
            clear HN1 HN HI
            go_wp2_with fail
            refine wp_region_later (by kernel_rfl) (by kernel_rfl) ?_
            repeat (go_big_quiet_step (fail))
            refine wpQuiet_nil ?_
            intro w5 hb5
            clear f0 f1
            go_wp2
            go_roundw
            case rel => exact ⟨m + 1 + 1, v, false, by omega, by go_num, rfl, rfl, HN2, next0 hb hb5⟩
            case measure => simp [intOf]; omega
        · rcases hx with hx | ⟨hx, hx2⟩ | ⟨hx, hx2⟩
          · have HN1 := HN.out
            rw [if_pos (.inl hx), if_neg (fun h => hle h.2)] at HN1
            have HN2 := Lib.hid HN1
            clear HN1 HN HI
            go_wp2_with fail
            refine wp_region_later (by kernel_rfl) (by kernel_rfl) ?_
            repeat (go_big_quiet_step (fail))
            refine wpQuiet_nil ?_
            intro w5 hb5
            clear f0 f1
            go_wp2
            go_roundw
            case rel => exact ⟨m + 1 + 1, 2, bb, by omega, by go_num, rfl, rfl, HN2, next0 hb hb5⟩
            case measure => simp [intOf]; omega
          · have HN1 := HN.out
            rw [if_pos (.inr hx2), if_neg (fun h => hle h.2)] at HN1
            have HN2 := Lib.hid HN1
            clear HN1 HN HI
            go_wp2_with fail
            refine wp_region_later (by kernel_rfl) (by kernel_rfl) ?_
            repeat (go_big_quiet_step (fail))
            refine wpQuiet_nil ?_
            intro w5 hb5
            clear f0 f1
            go_wp2
            go_roundw
            case rel => exact ⟨m + 1 + 1, 2, bb, by omega, by go_num, rfl, rfl, HN2, next0 hb hb5⟩
            case measure => simp [intOf]; omega
          · have HN1 := HN.out
            rw [if_neg (by omega), if_neg (fun h => hle h.2)] at HN1
            have HN2 := Lib.hid HN1
            clear HN1 HN HI
            go_wp2_with fail
            refine wp_region_later (by kernel_rfl) (by kernel_rfl) ?_
            repeat (go_big_quiet_step (fail))
            refine wpQuiet_nil ?_
            intro w5 hb5
            clear f0 f1
            go_wp2
            go_roundw
            case rel => exact ⟨m + 1 + 1, v, bb, by omega, by go_num, rfl, rfl, HN2, next0 hb hb5⟩
            case measure => simp [intOf]; omega
    · obtain rfl : k = n := by omega
      obtain ⟨hE, hx0, hx1⟩ := HE.out
      have e2 := HI.out.two
      have e3 := HI.out.bad
      have e4 := HI.out.up
      have hLk := HL.out
      rw [← hLk] at e3 e4
      cases hE with
      | range h =>
        obtain rfl := hx1 (by decide)
        clear hLk
        have h' : f < -7 ∨ (-7 ≤ f ∧ 7 < f) := by omega
        rcases e2 with rfl | rfl <;> cases bb <;> rcases h' with h' | ⟨h', h''⟩ <;> by_cases hk10 : (10 : Int) < (k : Int) <;> (clear e3 e4 HI HE HL HA hx0 hx1; go_wp2_with fail; go_returns; exact ⟨by first | rfl | (simp; done), next0 hbw hb⟩)
      | long f0 f1 hl =>
        obtain rfl := hx1 (by decide)
        have hk10 : (10 : Int) < (k : Int) := by omega
        clear hLk
        rcases e2 with rfl | rfl <;> cases bb <;> (clear e3 e4 HI HE HL HA hx0 hx1; go_wp2_with fail; go_returns; exact ⟨by first | rfl | (simp; done), next0 hbw hb⟩)
      | bad f0 f1 hl hb' =>
        obtain rfl := hx1 (by decide)
        have hk10 : (k : Int) ≤ 10 := by omega
        obtain rfl := e3.2 hb'
        clear hLk
        cases bb <;> (clear e3 e4 HI HE HL HA hx0 hx1; go_wp2_with fail; go_returns; exact ⟨by first | rfl | (simp; done), next0 hbw hb⟩)
      | order f0 f1 hl hb' hu =>
        obtain rfl := hx1 (by decide)
        have hk10 : (k : Int) ≤ 10 := by omega
        obtain rfl : v = 0 := by
          rcases e2 with h | h
          · exact h
          · exact absurd (e3.1 h) hb'
        obtain rfl : bb = false := by
          cases bb
          · rfl
          · exact absurd (e4.1 rfl) hu
        clear hLk
        (clear e3 e4 HI HE HL HA hx0 hx1; go_wp2_with fail; go_returns; exact ⟨by first | rfl | (simp; done), next0 hbw hb⟩)
      | ok f0 f1 hl hb' hu =>
        have hn2 := hx0 rfl
        rw [hLk] at hn2
        subst hn2
        have hk10 : (n2 : Int) ≤ 10 := by omega
        obtain rfl : v = 0 := by
          rcases e2 with h | h
          · exact h
          · exact absurd (e3.1 h) hb'
        obtain rfl : bb = true := e4.2 hu
        clear hLk
        (clear e3 e4 HI HE HL HA hx0 hx1; go_wp2_with fail; go_returns; exact ⟨by first | rfl | (simp; done), next0 hbw hb⟩)
end Go.Proofs.Ytdmhjcnijebfgaa
