/- The walk of hemiola/hemiolalaw09.SpellingErrors: it returns true, and writes nothing that was there. -/
import Derived.Test.YtdmhjcnijebfgaaScosts
import Derived.Test.YtdmhjcnijebfgaaSopen
import Derived.Deep.RegionWith
import Derived.Laws.MakeOwn
import Derived.OpenShut
namespace Go.Proofs.Ytdmhjcnijebfgaa
open Go.RowKit
set_option linter.unusedVariables false
theorem rd_takeI {w : World} {B : Nat} {A : Option Addr} {l : List Int} (h : Rd w B A (ints l)) (m : Nat) : Rd w B A (ints (l.take m)) := by
  rcases h with h | ⟨b, off, hA, hB, hc⟩
  · have : l = [] := by cases l with | nil => rfl | cons _ _ => cases h
    subst this
    exact .inl (by rw [List.take_nil]; rfl)
  · refine .inr ⟨b, off, hA, hB, fun j u hu => hc j u ?_⟩
    have hj : j < m := by
      have := (List.getElem?_eq_some_iff.1 hu).1
      rw [List.length_map, List.length_take] at this; omega
    rw [List.getElem?_map, List.getElem?_take_of_lt hj] at hu
    rw [List.getElem?_map]; exact hu
theorem next1d {W w1 w2 : World} {o : Obj} (hb : Below W.heap.size W w1) (hb2 : Below (w1.alloc o).drew.heap.size (w1.alloc o).drew w2) : Below W.heap.size W w2 :=
  next0 ((hb.alloc hb.size o).drew) hb2
theorem make_ints : ∃ C : Array Value, ∀ w : World, (Instr.makeSlice 22 (.int .i64 1025) (.int .i64 1025)).run Try.prog w = .ok (.slice (some ⟨w.heap.size, 0, none⟩) 1025 1025) (w.alloc (.cells C INT)) := by
  obtain ⟨i, hi, hz, hz1, hz2⟩ := info_parts infoInt
  exact ⟨_, fun w => run_make (P := Try.prog) w 22 INT i _ (by kernel_rfl) hi hz .i64 .i64 1025 1025 (by decide) (by decide) (by rw [hz2]; decide) (by decide)⟩
theorem make_pits : ∃ C : Array Value, ∀ w : World, (Instr.makeSlice 24 (.int .i64 1025) (.int .i64 1025)).run Try.prog w = .ok (.slice (some ⟨w.heap.size, 0, none⟩) 1025 1025) (w.alloc (.cells C PIT)) := by
  obtain ⟨i, hi, hz, hz1, hz2⟩ := info_parts infoPit
  exact ⟨_, fun w => run_make (P := Try.prog) w 24 PIT i _ (by kernel_rfl) hi hz .i64 .i64 1025 1025 (by decide) (by decide) (by rw [hz2]; decide) (by decide)⟩
set_option maxRecDepth 100000 in
set_option maxHeartbeats 8000000 in
theorem walkSpellingErrors {w : World} (A : Option Addr) (len cap : Nat) (L0 : List Int) (h0 : len ≤ cap ∧ cap ≤ maxLen ∧ L0.length = len ∧ Rd w w.heap.size A (ints L0) ∧ ∀ n ∈ L0, (Lit.int .i64 n).wf = true) (f : Int) (_wf : (Lit.int .i64 f).wf = true) (_w : World) :
    Calls Try.prog 6 #[.slice A len cap, .int .i64 f] w fun e w' => e = .returned (.bool true) ∧ Below w.heap.size w w' := by
  obtain ⟨hlc, hcm, rfl, hrd, h5⟩ := h0
  clear h5 _wf
  have hlc' : (L0.length : Int) ≤ (cap : Int) := by omega
  obtain ⟨n, hn⟩ : ∃ n, n = min L0.length 20 := ⟨_, rfl⟩
  have hL : (L0.take n).length = n := by rw [List.length_take]; omega
  have hrd1 := rd_takeI hrd n
  generalize hLL : L0.take n = L at *
  have hn40 : n ≤ 20 := by omega
  have hncap : (n : Int) ≤ (cap : Int) := by omega
  have HL := Lib.hid hL
  have HA := Lib.hid hrd1
  clear hL hrd1 hrd hLL
  clear hcm
  obtain ⟨C1, hm1⟩ := make_ints
  obtain ⟨C2, hm2⟩ := make_pits
  have hkb := keyI_bd f
  have cl1 := fun (b : Nat) (w : World) => spell_long (some ⟨b, 0, none⟩) 1025 1025 (keyI f) w (by unfold maxLen; omega) hkb.1 hkb.2 (by omega)
  have cl2 := fun (b : Nat) (w : World) => pcost_long (some ⟨b, 0, none⟩) 1025 1025 (keyI f) w (by unfold maxLen; omega) hkb.1 hkb.2 (by omega)
  have CL1 := Lib.hid cl1
  have CL2 := Lib.hid cl2
  clear cl1 cl2
  have hcase : ((L0.length : Int) ≤ 20 ∧ n = L0.length) ∨ (20 < (L0.length : Int) ∧ n = 20) := by omega
  clear hn
  have hrg : f < -7 ∨ (-7 ≤ f ∧ 7 < f) ∨ (-7 ≤ f ∧ f ≤ 7) := by omega
  rcases hcase with ⟨hc40, rfl⟩ | ⟨hc40, rfl⟩
  · rcases hrg with hr | ⟨hr0, hr⟩ | ⟨hf, hf'⟩
    · have HR : f < -7 ∨ 7 < f := .inl hr
      have HR0 := Lib.hid HR
      clear HR
      have cs := spell_range A L0.length cap f w (Nat.le_trans hn40 (by unfold maxLen; decide)) HR0.out
      go_enter Try.func6, Try.ntmps6
      go_wp2_with fail
      refine cs.mono ?_
      rintro e w1 ⟨rfl, hb1⟩
      clear cs
      go_wp2_with fail
      go_loopw [7, 8] (fun v i wr => ∃ (k : Nat) (x : Int), k ≤ L0.length ∧ i = .int .i64 (k : Int) ∧ v = .int .i64 x ∧ Hid ((x = 0 ∧ ∀ i, i < k → 0 ≤ L.getD i 0 ∧ L.getD i 0 ≤ 127) ∨ (x = 2 ∧ ∃ i, i < k ∧ (L.getD i 0 < 0 ∨ 127 < L.getD i 0))) ∧ Below w.heap.size w wr) (fun _ i _ => L0.length - (intOf i).toNat)
      case atStart => exact ⟨0, 0, by omega, rfl, rfl, Lib.hid (.inl ⟨rfl, fun i hi => absurd hi (Nat.not_lt_zero _)⟩), hb1⟩
      case round =>
        clear hb1
        obtain ⟨k, x, hk, rfl, rfl, HK, hb⟩ := hrel
        by_cases hlt : k < L0.length
        · have i0 : (0 : Int) ≤ (k : Int) := by omega
          have i1 : (k : Int) < ((L0.length : Nat) : Int) := by omega
          have i2 : (k : Int) < (L0.length : Int) := by omega
          obtain ⟨b, off, rfl, hlb, q0⟩ := rdI HA.out (k := k) (by rw [HL.out]; exact hlt)
          have c0 := (hb.cell (p := ⟨b, off + k, none⟩) hlb).trans q0
          clear q0
          have hv : L.getD k 0 < 0 ∨ (0 ≤ L.getD k 0 ∧ 127 < L.getD k 0) ∨ (0 ≤ L.getD k 0 ∧ L.getD k 0 ≤ 127) := by omega
          rcases hv with hv | ⟨hv, hv'⟩ | ⟨hv, hv'⟩
          · have HK1 := Lib.hid (show (2 : Int) = 2 ∧ ∃ i, i < k + 1 ∧ (L.getD i 0 < 0 ∨ 127 < L.getD i 0) from ⟨rfl, k, by omega, .inl hv⟩)
            generalize L.getD k 0 = n at *
            go_wp2_with fail
            go_roundw
            case rel => exact ⟨k + 1, 2, by omega, by go_num, rfl, Lib.hid (.inr HK1.out), hb⟩
            case measure => simp [intOf]; omega
          · have HK1 := Lib.hid (show (2 : Int) = 2 ∧ ∃ i, i < k + 1 ∧ (L.getD i 0 < 0 ∨ 127 < L.getD i 0) from ⟨rfl, k, by omega, .inr hv'⟩)
            generalize L.getD k 0 = n at *
            go_wp2_with fail
            go_roundw
            case rel => exact ⟨k + 1, 2, by omega, by go_num, rfl, Lib.hid (.inr HK1.out), hb⟩
            case measure => simp [intOf]; omega
          · have HK1 := Lib.hid (show (x = 0 ∧ ∀ i, i < k + 1 → 0 ≤ L.getD i 0 ∧ L.getD i 0 ≤ 127) ∨ (x = 2 ∧ ∃ i, i < k + 1 ∧ (L.getD i 0 < 0 ∨ 127 < L.getD i 0)) from by
              rcases HK.out with ⟨e, h⟩ | ⟨e, i, hi, h⟩
              · exact .inl ⟨e, fun i hi => by
                  by_cases e : i = k
                  · subst e; exact ⟨hv, hv'⟩
                  · exact h i (by omega)⟩
              · exact .inr ⟨e, i, by omega, h⟩)
            generalize L.getD k 0 = n at *
            go_wp2_with fail
            go_roundw
            case rel => exact ⟨k + 1, x, by omega, by go_num, rfl, HK1, hb⟩
            case measure => simp [intOf]; omega
        · obtain rfl : k = L0.length := by omega
          clear HK
          go_wp2_with (first
            | (go_at_call 13; refine (key_any _ _).mono ?_; rintro e w' ⟨rfl, rfl⟩)
            | (go_at_call 12; refine (CL1.out _ _).mono ?_; rintro e w3 ⟨rfl, hb3⟩))
          go_region_with (first
            | (go_at_call 13; refine (key_any _ _).mono ?_; rintro e w' ⟨rfl, rfl⟩)
            | (go_at_call 21; refine (CL2.out _ _).mono ?_; rintro e w4 ⟨rfl, hb4⟩))
          all_goals
            go_wp2_with (go_at_call 14; refine (known_any _).mono ?_; rintro e w5 ⟨rfl, hb5⟩)
            go_returns
            exact ⟨by first | rfl | (simp; done), next0 (next1d (next1 hb hb3) hb4) hb5⟩
    · have HR : f < -7 ∨ 7 < f := .inr hr
      have HR0 := Lib.hid HR
      clear HR
      have cs := spell_range A L0.length cap f w (Nat.le_trans hn40 (by unfold maxLen; decide)) HR0.out
      go_enter Try.func6, Try.ntmps6
      go_wp2_with fail
      refine cs.mono ?_
      rintro e w1 ⟨rfl, hb1⟩
      clear cs
      go_wp2_with fail
      go_loopw [7, 8] (fun v i wr => ∃ (k : Nat) (x : Int), k ≤ L0.length ∧ i = .int .i64 (k : Int) ∧ v = .int .i64 x ∧ Hid ((x = 0 ∧ ∀ i, i < k → 0 ≤ L.getD i 0 ∧ L.getD i 0 ≤ 127) ∨ (x = 2 ∧ ∃ i, i < k ∧ (L.getD i 0 < 0 ∨ 127 < L.getD i 0))) ∧ Below w.heap.size w wr) (fun _ i _ => L0.length - (intOf i).toNat)
      case atStart => exact ⟨0, 0, by omega, rfl, rfl, Lib.hid (.inl ⟨rfl, fun i hi => absurd hi (Nat.not_lt_zero _)⟩), hb1⟩
      case round =>
        clear hb1
        obtain ⟨k, x, hk, rfl, rfl, HK, hb⟩ := hrel
        by_cases hlt : k < L0.length
        · have i0 : (0 : Int) ≤ (k : Int) := by omega
          have i1 : (k : Int) < ((L0.length : Nat) : Int) := by omega
          have i2 : (k : Int) < (L0.length : Int) := by omega
          obtain ⟨b, off, rfl, hlb, q0⟩ := rdI HA.out (k := k) (by rw [HL.out]; exact hlt)
          have c0 := (hb.cell (p := ⟨b, off + k, none⟩) hlb).trans q0
          clear q0
          have hv : L.getD k 0 < 0 ∨ (0 ≤ L.getD k 0 ∧ 127 < L.getD k 0) ∨ (0 ≤ L.getD k 0 ∧ L.getD k 0 ≤ 127) := by omega
          rcases hv with hv | ⟨hv, hv'⟩ | ⟨hv, hv'⟩
          · have HK1 := Lib.hid (show (2 : Int) = 2 ∧ ∃ i, i < k + 1 ∧ (L.getD i 0 < 0 ∨ 127 < L.getD i 0) from ⟨rfl, k, by omega, .inl hv⟩)
            generalize L.getD k 0 = n at *
            go_wp2_with fail
            go_roundw
            case rel => exact ⟨k + 1, 2, by omega, by go_num, rfl, Lib.hid (.inr HK1.out), hb⟩
            case measure => simp [intOf]; omega
          · have HK1 := Lib.hid (show (2 : Int) = 2 ∧ ∃ i, i < k + 1 ∧ (L.getD i 0 < 0 ∨ 127 < L.getD i 0) from ⟨rfl, k, by omega, .inr hv'⟩)
            generalize L.getD k 0 = n at *
            go_wp2_with fail
            go_roundw
            case rel => exact ⟨k + 1, 2, by omega, by go_num, rfl, Lib.hid (.inr HK1.out), hb⟩
            case measure => simp [intOf]; omega
          · have HK1 := Lib.hid (show (x = 0 ∧ ∀ i, i < k + 1 → 0 ≤ L.getD i 0 ∧ L.getD i 0 ≤ 127) ∨ (x = 2 ∧ ∃ i, i < k + 1 ∧ (L.getD i 0 < 0 ∨ 127 < L.getD i 0)) from by
              rcases HK.out with ⟨e, h⟩ | ⟨e, i, hi, h⟩
              · exact .inl ⟨e, fun i hi => by
                  by_cases e : i = k
                  · subst e; exact ⟨hv, hv'⟩
                  · exact h i (by omega)⟩
              · exact .inr ⟨e, i, by omega, h⟩)
            generalize L.getD k 0 = n at *
            go_wp2_with fail
            go_roundw
            case rel => exact ⟨k + 1, x, by omega, by go_num, rfl, HK1, hb⟩
            case measure => simp [intOf]; omega
        · obtain rfl : k = L0.length := by omega
          clear HK
          go_wp2_with (first
            | (go_at_call 13; refine (key_any _ _).mono ?_; rintro e w' ⟨rfl, rfl⟩)
            | (go_at_call 12; refine (CL1.out _ _).mono ?_; rintro e w3 ⟨rfl, hb3⟩))
          go_region_with (first
            | (go_at_call 13; refine (key_any _ _).mono ?_; rintro e w' ⟨rfl, rfl⟩)
            | (go_at_call 21; refine (CL2.out _ _).mono ?_; rintro e w4 ⟨rfl, hb4⟩))
          all_goals
            go_wp2_with (go_at_call 14; refine (known_any _).mono ?_; rintro e w5 ⟨rfl, hb5⟩)
            go_returns
            exact ⟨by first | rfl | (simp; done), next0 (next1d (next1 hb hb3) hb4) hb5⟩
    · have HC : (∃ n ∈ L, n < 0 ∨ 127 < n) ∨ ∀ n ∈ L, 0 ≤ n ∧ n ≤ 127 := by
        rcases Classical.em (∃ n ∈ L, n < 0 ∨ 127 < n) with h | h
        · exact .inl h
        · exact .inr fun n hn => by
            have h1 : ¬ (n < 0 ∨ 127 < n) := fun hb => h ⟨n, hn, hb⟩
            omega
      rcases HC with h | h
      · have Hbad := Lib.hid h
        clear h
        have cs := spell_bad A cap L f w HA.out (by rw [HL.out]; omega) hf hf' Hbad.out
        rw [HL.out] at cs
        go_enter Try.func6, Try.ntmps6
        go_wp2_with fail
        refine cs.mono ?_
        rintro e w1 ⟨rfl, hb1⟩
        clear cs
        go_wp2_with fail
        go_loopw [7, 8] (fun v i wr => ∃ (k : Nat) (x : Int), k ≤ L0.length ∧ i = .int .i64 (k : Int) ∧ v = .int .i64 x ∧ Hid ((x = 0 ∧ ∀ i, i < k → 0 ≤ L.getD i 0 ∧ L.getD i 0 ≤ 127) ∨ (x = 2 ∧ ∃ i, i < k ∧ (L.getD i 0 < 0 ∨ 127 < L.getD i 0))) ∧ Below w.heap.size w wr) (fun _ i _ => L0.length - (intOf i).toNat)
        case atStart => exact ⟨0, 0, by omega, rfl, rfl, Lib.hid (.inl ⟨rfl, fun i hi => absurd hi (Nat.not_lt_zero _)⟩), hb1⟩
        case round =>
          clear hb1
          obtain ⟨k, x, hk, rfl, rfl, HK, hb⟩ := hrel
          by_cases hlt : k < L0.length
          · have i0 : (0 : Int) ≤ (k : Int) := by omega
            have i1 : (k : Int) < ((L0.length : Nat) : Int) := by omega
            have i2 : (k : Int) < (L0.length : Int) := by omega
            obtain ⟨b, off, rfl, hlb, q0⟩ := rdI HA.out (k := k) (by rw [HL.out]; exact hlt)
            have c0 := (hb.cell (p := ⟨b, off + k, none⟩) hlb).trans q0
            clear q0
            have hv : L.getD k 0 < 0 ∨ (0 ≤ L.getD k 0 ∧ 127 < L.getD k 0) ∨ (0 ≤ L.getD k 0 ∧ L.getD k 0 ≤ 127) := by omega
            rcases hv with hv | ⟨hv, hv'⟩ | ⟨hv, hv'⟩
            · have HK1 := Lib.hid (show (2 : Int) = 2 ∧ ∃ i, i < k + 1 ∧ (L.getD i 0 < 0 ∨ 127 < L.getD i 0) from ⟨rfl, k, by omega, .inl hv⟩)
              generalize L.getD k 0 = n at *
              go_wp2_with fail
              go_roundw
              case rel => exact ⟨k + 1, 2, by omega, by go_num, rfl, Lib.hid (.inr HK1.out), hb⟩
              case measure => simp [intOf]; omega
            · have HK1 := Lib.hid (show (2 : Int) = 2 ∧ ∃ i, i < k + 1 ∧ (L.getD i 0 < 0 ∨ 127 < L.getD i 0) from ⟨rfl, k, by omega, .inr hv'⟩)
              generalize L.getD k 0 = n at *
              go_wp2_with fail
              go_roundw
              case rel => exact ⟨k + 1, 2, by omega, by go_num, rfl, Lib.hid (.inr HK1.out), hb⟩
              case measure => simp [intOf]; omega
            · have HK1 := Lib.hid (show (x = 0 ∧ ∀ i, i < k + 1 → 0 ≤ L.getD i 0 ∧ L.getD i 0 ≤ 127) ∨ (x = 2 ∧ ∃ i, i < k + 1 ∧ (L.getD i 0 < 0 ∨ 127 < L.getD i 0)) from by
                rcases HK.out with ⟨e, h⟩ | ⟨e, i, hi, h⟩
                · exact .inl ⟨e, fun i hi => by
                    by_cases e : i = k
                    · subst e; exact ⟨hv, hv'⟩
                    · exact h i (by omega)⟩
                · exact .inr ⟨e, i, by omega, h⟩)
              generalize L.getD k 0 = n at *
              go_wp2_with fail
              go_roundw
              case rel => exact ⟨k + 1, x, by omega, by go_num, rfl, HK1, hb⟩
              case measure => simp [intOf]; omega
          · obtain rfl : k = L0.length := by omega
            obtain rfl : x = 2 := by
              rcases HK.out with ⟨e, h⟩ | ⟨e, h⟩
              · exfalso
                obtain ⟨m, hm, hb⟩ := Hbad.out
                obtain ⟨i, hi, rfl⟩ := List.getElem_of_mem hm
                have := h i (by rw [← HL.out]; exact hi)
                rw [get_getD L 0 hi] at hb
                omega
              · exact e
            clear HK
            go_wp2_with (first
              | (go_at_call 13; refine (key_any _ _).mono ?_; rintro e w' ⟨rfl, rfl⟩)
              | (go_at_call 12; refine (CL1.out _ _).mono ?_; rintro e w3 ⟨rfl, hb3⟩))
            go_region_with (first
              | (go_at_call 13; refine (key_any _ _).mono ?_; rintro e w' ⟨rfl, rfl⟩)
              | (go_at_call 21; refine (CL2.out _ _).mono ?_; rintro e w4 ⟨rfl, hb4⟩))
            all_goals
              go_wp2_with (go_at_call 14; refine (known_any _).mono ?_; rintro e w5 ⟨rfl, hb5⟩)
              go_returns
              exact ⟨by first | rfl | (simp; done), next0 (next1d (next1 hb hb3) hb4) hb5⟩
      · have Hall := Lib.hid h
        clear h
        have cs := spell_ok A cap L f w HA.out (by rw [HL.out]; omega) hf hf' Hall.out
        rw [HL.out] at cs
        go_enter Try.func6, Try.ntmps6
        go_wp2_with fail
        refine cs.mono ?_
        rintro e w1 ⟨⟨A', c', rfl, h1, h2, h3⟩, hb1⟩
        clear cs h1 h2 h3
        go_wp2_with fail
        go_loopw [7, 8] (fun v i wr => ∃ (k : Nat) (x : Int), k ≤ L0.length ∧ i = .int .i64 (k : Int) ∧ v = .int .i64 x ∧ Hid ((x = 0 ∧ ∀ i, i < k → 0 ≤ L.getD i 0 ∧ L.getD i 0 ≤ 127) ∨ (x = 2 ∧ ∃ i, i < k ∧ (L.getD i 0 < 0 ∨ 127 < L.getD i 0))) ∧ Below w.heap.size w wr) (fun _ i _ => L0.length - (intOf i).toNat)
        case atStart => exact ⟨0, 0, by omega, rfl, rfl, Lib.hid (.inl ⟨rfl, fun i hi => absurd hi (Nat.not_lt_zero _)⟩), hb1⟩
        case round =>
          clear hb1
          obtain ⟨k, x, hk, rfl, rfl, HK, hb⟩ := hrel
          by_cases hlt : k < L0.length
          · have i0 : (0 : Int) ≤ (k : Int) := by omega
            have i1 : (k : Int) < ((L0.length : Nat) : Int) := by omega
            have i2 : (k : Int) < (L0.length : Int) := by omega
            obtain ⟨b, off, rfl, hlb, q0⟩ := rdI HA.out (k := k) (by rw [HL.out]; exact hlt)
            have c0 := (hb.cell (p := ⟨b, off + k, none⟩) hlb).trans q0
            clear q0
            have hv : L.getD k 0 < 0 ∨ (0 ≤ L.getD k 0 ∧ 127 < L.getD k 0) ∨ (0 ≤ L.getD k 0 ∧ L.getD k 0 ≤ 127) := by omega
            rcases hv with hv | ⟨hv, hv'⟩ | ⟨hv, hv'⟩
            · have HK1 := Lib.hid (show (2 : Int) = 2 ∧ ∃ i, i < k + 1 ∧ (L.getD i 0 < 0 ∨ 127 < L.getD i 0) from ⟨rfl, k, by omega, .inl hv⟩)
              generalize L.getD k 0 = n at *
              go_wp2_with fail
              go_roundw
              case rel => exact ⟨k + 1, 2, by omega, by go_num, rfl, Lib.hid (.inr HK1.out), hb⟩
              case measure => simp [intOf]; omega
            · have HK1 := Lib.hid (show (2 : Int) = 2 ∧ ∃ i, i < k + 1 ∧ (L.getD i 0 < 0 ∨ 127 < L.getD i 0) from ⟨rfl, k, by omega, .inr hv'⟩)
              generalize L.getD k 0 = n at *
              go_wp2_with fail
              go_roundw
              case rel => exact ⟨k + 1, 2, by omega, by go_num, rfl, Lib.hid (.inr HK1.out), hb⟩
              case measure => simp [intOf]; omega
            · have HK1 := Lib.hid (show (x = 0 ∧ ∀ i, i < k + 1 → 0 ≤ L.getD i 0 ∧ L.getD i 0 ≤ 127) ∨ (x = 2 ∧ ∃ i, i < k + 1 ∧ (L.getD i 0 < 0 ∨ 127 < L.getD i 0)) from by
                rcases HK.out with ⟨e, h⟩ | ⟨e, i, hi, h⟩
                · exact .inl ⟨e, fun i hi => by
                    by_cases e : i = k
                    · subst e; exact ⟨hv, hv'⟩
                    · exact h i (by omega)⟩
                · exact .inr ⟨e, i, by omega, h⟩)
              generalize L.getD k 0 = n at *
              go_wp2_with fail
              go_roundw
              case rel => exact ⟨k + 1, x, by omega, by go_num, rfl, HK1, hb⟩
              case measure => simp [intOf]; omega
          · obtain rfl : k = L0.length := by omega
            obtain rfl : x = 0 := by
              rcases HK.out with ⟨e, h⟩ | ⟨e, i, hi, h⟩
              · exact e
              · exfalso
                have := Hall.out _ (getD_memL L 0 (i := i) (by rw [HL.out]; exact hi))
                omega
            clear HK
            go_wp2_with (first
              | (go_at_call 13; refine (key_any _ _).mono ?_; rintro e w' ⟨rfl, rfl⟩)
              | (go_at_call 12; refine (CL1.out _ _).mono ?_; rintro e w3 ⟨rfl, hb3⟩))
            go_region_with (first
              | (go_at_call 13; refine (key_any _ _).mono ?_; rintro e w' ⟨rfl, rfl⟩)
              | (go_at_call 21; refine (CL2.out _ _).mono ?_; rintro e w4 ⟨rfl, hb4⟩))
            all_goals
              go_wp2_with (go_at_call 14; refine (known_any _).mono ?_; rintro e w5 ⟨rfl, hb5⟩)
              go_returns
              exact ⟨by first | rfl | (simp; done), next0 (next1d (next1 hb hb3) hb4) hb5⟩
  · rcases hrg with hr | ⟨hr0, hr⟩ | ⟨hf, hf'⟩
    · have HR : f < -7 ∨ 7 < f := .inl hr
      have HR0 := Lib.hid HR
      clear HR
      have cs := spell_range A 20 cap f w (Nat.le_trans hn40 (by unfold maxLen; decide)) HR0.out
      go_enter Try.func6, Try.ntmps6
      go_wp2_with fail
      refine cs.mono ?_
      rintro e w1 ⟨rfl, hb1⟩
      clear cs
      go_wp2_with fail
      go_loopw [7, 8] (fun v i wr => ∃ (k : Nat) (x : Int), k ≤ 20 ∧ i = .int .i64 (k : Int) ∧ v = .int .i64 x ∧ Hid ((x = 0 ∧ ∀ i, i < k → 0 ≤ L.getD i 0 ∧ L.getD i 0 ≤ 127) ∨ (x = 2 ∧ ∃ i, i < k ∧ (L.getD i 0 < 0 ∨ 127 < L.getD i 0))) ∧ Below w.heap.size w wr) (fun _ i _ => 20 - (intOf i).toNat)
      case atStart => exact ⟨0, 0, by omega, rfl, rfl, Lib.hid (.inl ⟨rfl, fun i hi => absurd hi (Nat.not_lt_zero _)⟩), hb1⟩
      case round =>
        clear hb1
        obtain ⟨k, x, hk, rfl, rfl, HK, hb⟩ := hrel
        by_cases hlt : k < 20
        · have i0 : (0 : Int) ≤ (k : Int) := by omega
          have i1 : (k : Int) < ((20 : Nat) : Int) := by omega
          have i2 : (k : Int) < (20 : Int) := by omega
          obtain ⟨b, off, rfl, hlb, q0⟩ := rdI HA.out (k := k) (by rw [HL.out]; exact hlt)
          have c0 := (hb.cell (p := ⟨b, off + k, none⟩) hlb).trans q0
          clear q0
          have hv : L.getD k 0 < 0 ∨ (0 ≤ L.getD k 0 ∧ 127 < L.getD k 0) ∨ (0 ≤ L.getD k 0 ∧ L.getD k 0 ≤ 127) := by omega
          rcases hv with hv | ⟨hv, hv'⟩ | ⟨hv, hv'⟩
          · have HK1 := Lib.hid (show (2 : Int) = 2 ∧ ∃ i, i < k + 1 ∧ (L.getD i 0 < 0 ∨ 127 < L.getD i 0) from ⟨rfl, k, by omega, .inl hv⟩)
            generalize L.getD k 0 = n at *
            go_wp2_with fail
            go_roundw
            case rel => exact ⟨k + 1, 2, by omega, by go_num, rfl, Lib.hid (.inr HK1.out), hb⟩
            case measure => simp [intOf]; omega
          · have HK1 := Lib.hid (show (2 : Int) = 2 ∧ ∃ i, i < k + 1 ∧ (L.getD i 0 < 0 ∨ 127 < L.getD i 0) from ⟨rfl, k, by omega, .inr hv'⟩)
            generalize L.getD k 0 = n at *
            go_wp2_with fail
            go_roundw
            case rel => exact ⟨k + 1, 2, by omega, by go_num, rfl, Lib.hid (.inr HK1.out), hb⟩
            case measure => simp [intOf]; omega
          · have HK1 := Lib.hid (show (x = 0 ∧ ∀ i, i < k + 1 → 0 ≤ L.getD i 0 ∧ L.getD i 0 ≤ 127) ∨ (x = 2 ∧ ∃ i, i < k + 1 ∧ (L.getD i 0 < 0 ∨ 127 < L.getD i 0)) from by
              rcases HK.out with ⟨e, h⟩ | ⟨e, i, hi, h⟩
              · exact .inl ⟨e, fun i hi => by
                  by_cases e : i = k
                  · subst e; exact ⟨hv, hv'⟩
                  · exact h i (by omega)⟩
              · exact .inr ⟨e, i, by omega, h⟩)
            generalize L.getD k 0 = n at *
            go_wp2_with fail
            go_roundw
            case rel => exact ⟨k + 1, x, by omega, by go_num, rfl, HK1, hb⟩
            case measure => simp [intOf]; omega
        · obtain rfl : k = 20 := by omega
          clear HK
          go_wp2_with (first
            | (go_at_call 13; refine (key_any _ _).mono ?_; rintro e w' ⟨rfl, rfl⟩)
            | (go_at_call 12; refine (CL1.out _ _).mono ?_; rintro e w3 ⟨rfl, hb3⟩))
          go_region_with (first
            | (go_at_call 13; refine (key_any _ _).mono ?_; rintro e w' ⟨rfl, rfl⟩)
            | (go_at_call 21; refine (CL2.out _ _).mono ?_; rintro e w4 ⟨rfl, hb4⟩))
          all_goals
            go_wp2_with (go_at_call 14; refine (known_any _).mono ?_; rintro e w5 ⟨rfl, hb5⟩)
            go_returns
            exact ⟨by first | rfl | (simp; done), next0 (next1d (next1 hb hb3) hb4) hb5⟩
    · have HR : f < -7 ∨ 7 < f := .inr hr
      have HR0 := Lib.hid HR
      clear HR
      have cs := spell_range A 20 cap f w (Nat.le_trans hn40 (by unfold maxLen; decide)) HR0.out
      go_enter Try.func6, Try.ntmps6
      go_wp2_with fail
      refine cs.mono ?_
      rintro e w1 ⟨rfl, hb1⟩
      clear cs
      go_wp2_with fail
      go_loopw [7, 8] (fun v i wr => ∃ (k : Nat) (x : Int), k ≤ 20 ∧ i = .int .i64 (k : Int) ∧ v = .int .i64 x ∧ Hid ((x = 0 ∧ ∀ i, i < k → 0 ≤ L.getD i 0 ∧ L.getD i 0 ≤ 127) ∨ (x = 2 ∧ ∃ i, i < k ∧ (L.getD i 0 < 0 ∨ 127 < L.getD i 0))) ∧ Below w.heap.size w wr) (fun _ i _ => 20 - (intOf i).toNat)
      case atStart => exact ⟨0, 0, by omega, rfl, rfl, Lib.hid (.inl ⟨rfl, fun i hi => absurd hi (Nat.not_lt_zero _)⟩), hb1⟩
      case round =>
        clear hb1
        obtain ⟨k, x, hk, rfl, rfl, HK, hb⟩ := hrel
        by_cases hlt : k < 20
        · have i0 : (0 : Int) ≤ (k : Int) := by omega
          have i1 : (k : Int) < ((20 : Nat) : Int) := by omega
          have i2 : (k : Int) < (20 : Int) := by omega
          obtain ⟨b, off, rfl, hlb, q0⟩ := rdI HA.out (k := k) (by rw [HL.out]; exact hlt)
          have c0 := (hb.cell (p := ⟨b, off + k, none⟩) hlb).trans q0
          clear q0
          have hv : L.getD k 0 < 0 ∨ (0 ≤ L.getD k 0 ∧ 127 < L.getD k 0) ∨ (0 ≤ L.getD k 0 ∧ L.getD k 0 ≤ 127) := by omega
          rcases hv with hv | ⟨hv, hv'⟩ | ⟨hv, hv'⟩
          · have HK1 := Lib.hid (show (2 : Int) = 2 ∧ ∃ i, i < k + 1 ∧ (L.getD i 0 < 0 ∨ 127 < L.getD i 0) from ⟨rfl, k, by omega, .inl hv⟩)
            generalize L.getD k 0 = n at *
            go_wp2_with fail
            go_roundw
            case rel => exact ⟨k + 1, 2, by omega, by go_num, rfl, Lib.hid (.inr HK1.out), hb⟩
            case measure => simp [intOf]; omega
          · have HK1 := Lib.hid (show (2 : Int) = 2 ∧ ∃ i, i < k + 1 ∧ (L.getD i 0 < 0 ∨ 127 < L.getD i 0) from ⟨rfl, k, by omega, .inr hv'⟩)
            generalize L.getD k 0 = n at *
            go_wp2_with fail
            go_roundw
            case rel => exact ⟨k + 1, 2, by omega, by go_num, rfl, Lib.hid (.inr HK1.out), hb⟩
            case measure => simp [intOf]; omega
          · have HK1 := Lib.hid (show (x = 0 ∧ ∀ i, i < k + 1 → 0 ≤ L.getD i 0 ∧ L.getD i 0 ≤ 127) ∨ (x = 2 ∧ ∃ i, i < k + 1 ∧ (L.getD i 0 < 0 ∨ 127 < L.getD i 0)) from by
              rcases HK.out with ⟨e, h⟩ | ⟨e, i, hi, h⟩
              · exact .inl ⟨e, fun i hi => by
                  by_cases e : i = k
                  · subst e; exact ⟨hv, hv'⟩
                  · exact h i (by omega)⟩
              · exact .inr ⟨e, i, by omega, h⟩)
            generalize L.getD k 0 = n at *
            go_wp2_with fail
            go_roundw
            case rel => exact ⟨k + 1, x, by omega, by go_num, rfl, HK1, hb⟩
            case measure => simp [intOf]; omega
        · obtain rfl : k = 20 := by omega
          clear HK
          go_wp2_with (first
            | (go_at_call 13; refine (key_any _ _).mono ?_; rintro e w' ⟨rfl, rfl⟩)
            | (go_at_call 12; refine (CL1.out _ _).mono ?_; rintro e w3 ⟨rfl, hb3⟩))
          go_region_with (first
            | (go_at_call 13; refine (key_any _ _).mono ?_; rintro e w' ⟨rfl, rfl⟩)
            | (go_at_call 21; refine (CL2.out _ _).mono ?_; rintro e w4 ⟨rfl, hb4⟩))
          all_goals
            go_wp2_with (go_at_call 14; refine (known_any _).mono ?_; rintro e w5 ⟨rfl, hb5⟩)
            go_returns
            exact ⟨by first | rfl | (simp; done), next0 (next1d (next1 hb hb3) hb4) hb5⟩
    · have HC : (∃ n ∈ L, n < 0 ∨ 127 < n) ∨ ∀ n ∈ L, 0 ≤ n ∧ n ≤ 127 := by
        rcases Classical.em (∃ n ∈ L, n < 0 ∨ 127 < n) with h | h
        · exact .inl h
        · exact .inr fun n hn => by
            have h1 : ¬ (n < 0 ∨ 127 < n) := fun hb => h ⟨n, hn, hb⟩
            omega
      rcases HC with h | h
      · have Hbad := Lib.hid h
        clear h
        have cs := spell_bad A cap L f w HA.out (by rw [HL.out]; omega) hf hf' Hbad.out
        rw [HL.out] at cs
        go_enter Try.func6, Try.ntmps6
        go_wp2_with fail
        refine cs.mono ?_
        rintro e w1 ⟨rfl, hb1⟩
        clear cs
        go_wp2_with fail
        go_loopw [7, 8] (fun v i wr => ∃ (k : Nat) (x : Int), k ≤ 20 ∧ i = .int .i64 (k : Int) ∧ v = .int .i64 x ∧ Hid ((x = 0 ∧ ∀ i, i < k → 0 ≤ L.getD i 0 ∧ L.getD i 0 ≤ 127) ∨ (x = 2 ∧ ∃ i, i < k ∧ (L.getD i 0 < 0 ∨ 127 < L.getD i 0))) ∧ Below w.heap.size w wr) (fun _ i _ => 20 - (intOf i).toNat)
        case atStart => exact ⟨0, 0, by omega, rfl, rfl, Lib.hid (.inl ⟨rfl, fun i hi => absurd hi (Nat.not_lt_zero _)⟩), hb1⟩
        case round =>
          clear hb1
          obtain ⟨k, x, hk, rfl, rfl, HK, hb⟩ := hrel
          by_cases hlt : k < 20
          · have i0 : (0 : Int) ≤ (k : Int) := by omega
            have i1 : (k : Int) < ((20 : Nat) : Int) := by omega
            have i2 : (k : Int) < (20 : Int) := by omega
            obtain ⟨b, off, rfl, hlb, q0⟩ := rdI HA.out (k := k) (by rw [HL.out]; exact hlt)
            have c0 := (hb.cell (p := ⟨b, off + k, none⟩) hlb).trans q0
            clear q0
            have hv : L.getD k 0 < 0 ∨ (0 ≤ L.getD k 0 ∧ 127 < L.getD k 0) ∨ (0 ≤ L.getD k 0 ∧ L.getD k 0 ≤ 127) := by omega
            rcases hv with hv | ⟨hv, hv'⟩ | ⟨hv, hv'⟩
            · have HK1 := Lib.hid (show (2 : Int) = 2 ∧ ∃ i, i < k + 1 ∧ (L.getD i 0 < 0 ∨ 127 < L.getD i 0) from ⟨rfl, k, by omega, .inl hv⟩)
              generalize L.getD k 0 = n at *
              go_wp2_with fail
              go_roundw
              case rel => exact ⟨k + 1, 2, by omega, by go_num, rfl, Lib.hid (.inr HK1.out), hb⟩
              case measure => simp [intOf]; omega
            · have HK1 := Lib.hid (show (2 : Int) = 2 ∧ ∃ i, i < k + 1 ∧ (L.getD i 0 < 0 ∨ 127 < L.getD i 0) from ⟨rfl, k, by omega, .inr hv'⟩)
              generalize L.getD k 0 = n at *
              go_wp2_with fail
              go_roundw
              case rel => exact ⟨k + 1, 2, by omega, by go_num, rfl, Lib.hid (.inr HK1.out), hb⟩
              case measure => simp [intOf]; omega
            · have HK1 := Lib.hid (show (x = 0 ∧ ∀ i, i < k + 1 → 0 ≤ L.getD i 0 ∧ L.getD i 0 ≤ 127) ∨ (x = 2 ∧ ∃ i, i < k + 1 ∧ (L.getD i 0 < 0 ∨ 127 < L.getD i 0)) from by
                rcases HK.out with ⟨e, h⟩ | ⟨e, i, hi, h⟩
                · exact .inl ⟨e, fun i hi => by
                    by_cases e : i = k
                    · subst e; exact ⟨hv, hv'⟩
                    · exact h i (by omega)⟩
                · exact .inr ⟨e, i, by omega, h⟩)
              generalize L.getD k 0 = n at *
              go_wp2_with fail
              go_roundw
              case rel => exact ⟨k + 1, x, by omega, by go_num, rfl, HK1, hb⟩
              case measure => simp [intOf]; omega
          · obtain rfl : k = 20 := by omega
            obtain rfl : x = 2 := by
              rcases HK.out with ⟨e, h⟩ | ⟨e, h⟩
              · exfalso
                obtain ⟨m, hm, hb⟩ := Hbad.out
                obtain ⟨i, hi, rfl⟩ := List.getElem_of_mem hm
                have := h i (by rw [← HL.out]; exact hi)
                rw [get_getD L 0 hi] at hb
                omega
              · exact e
            clear HK
            go_wp2_with (first
              | (go_at_call 13; refine (key_any _ _).mono ?_; rintro e w' ⟨rfl, rfl⟩)
              | (go_at_call 12; refine (CL1.out _ _).mono ?_; rintro e w3 ⟨rfl, hb3⟩))
            go_region_with (first
              | (go_at_call 13; refine (key_any _ _).mono ?_; rintro e w' ⟨rfl, rfl⟩)
              | (go_at_call 21; refine (CL2.out _ _).mono ?_; rintro e w4 ⟨rfl, hb4⟩))
            all_goals
              go_wp2_with (go_at_call 14; refine (known_any _).mono ?_; rintro e w5 ⟨rfl, hb5⟩)
              go_returns
              exact ⟨by first | rfl | (simp; done), next0 (next1d (next1 hb hb3) hb4) hb5⟩
      · have Hall := Lib.hid h
        clear h
        have cs := spell_ok A cap L f w HA.out (by rw [HL.out]; omega) hf hf' Hall.out
        rw [HL.out] at cs
        go_enter Try.func6, Try.ntmps6
        go_wp2_with fail
        refine cs.mono ?_
        rintro e w1 ⟨⟨A', c', rfl, h1, h2, h3⟩, hb1⟩
        clear cs h1 h2 h3
        go_wp2_with fail
        go_loopw [7, 8] (fun v i wr => ∃ (k : Nat) (x : Int), k ≤ 20 ∧ i = .int .i64 (k : Int) ∧ v = .int .i64 x ∧ Hid ((x = 0 ∧ ∀ i, i < k → 0 ≤ L.getD i 0 ∧ L.getD i 0 ≤ 127) ∨ (x = 2 ∧ ∃ i, i < k ∧ (L.getD i 0 < 0 ∨ 127 < L.getD i 0))) ∧ Below w.heap.size w wr) (fun _ i _ => 20 - (intOf i).toNat)
        case atStart => exact ⟨0, 0, by omega, rfl, rfl, Lib.hid (.inl ⟨rfl, fun i hi => absurd hi (Nat.not_lt_zero _)⟩), hb1⟩
        case round =>
          clear hb1
          obtain ⟨k, x, hk, rfl, rfl, HK, hb⟩ := hrel
          by_cases hlt : k < 20
          · have i0 : (0 : Int) ≤ (k : Int) := by omega
            have i1 : (k : Int) < ((20 : Nat) : Int) := by omega
            have i2 : (k : Int) < (20 : Int) := by omega
            obtain ⟨b, off, rfl, hlb, q0⟩ := rdI HA.out (k := k) (by rw [HL.out]; exact hlt)
            have c0 := (hb.cell (p := ⟨b, off + k, none⟩) hlb).trans q0
            clear q0
            have hv : L.getD k 0 < 0 ∨ (0 ≤ L.getD k 0 ∧ 127 < L.getD k 0) ∨ (0 ≤ L.getD k 0 ∧ L.getD k 0 ≤ 127) := by omega
            rcases hv with hv | ⟨hv, hv'⟩ | ⟨hv, hv'⟩
            · have HK1 := Lib.hid (show (2 : Int) = 2 ∧ ∃ i, i < k + 1 ∧ (L.getD i 0 < 0 ∨ 127 < L.getD i 0) from ⟨rfl, k, by omega, .inl hv⟩)
              generalize L.getD k 0 = n at *
              go_wp2_with fail
              go_roundw
              case rel => exact ⟨k + 1, 2, by omega, by go_num, rfl, Lib.hid (.inr HK1.out), hb⟩
              case measure => simp [intOf]; omega
            · have HK1 := Lib.hid (show (2 : Int) = 2 ∧ ∃ i, i < k + 1 ∧ (L.getD i 0 < 0 ∨ 127 < L.getD i 0) from ⟨rfl, k, by omega, .inr hv'⟩)
              generalize L.getD k 0 = n at *
              go_wp2_with fail
              go_roundw
              case rel => exact ⟨k + 1, 2, by omega, by go_num, rfl, Lib.hid (.inr HK1.out), hb⟩
              case measure => simp [intOf]; omega
            · have HK1 := Lib.hid (show (x = 0 ∧ ∀ i, i < k + 1 → 0 ≤ L.getD i 0 ∧ L.getD i 0 ≤ 127) ∨ (x = 2 ∧ ∃ i, i < k + 1 ∧ (L.getD i 0 < 0 ∨ 127 < L.getD i 0)) from by
                rcases HK.out with ⟨e, h⟩ | ⟨e, i, hi, h⟩
                · exact .inl ⟨e, fun i hi => by
                    by_cases e : i = k
                    · subst e; exact ⟨hv, hv'⟩
                    · exact h i (by omega)⟩
                · exact .inr ⟨e, i, by omega, h⟩)
              generalize L.getD k 0 = n at *
              go_wp2_with fail
              go_roundw
              case rel => exact ⟨k + 1, x, by omega, by go_num, rfl, HK1, hb⟩
              case measure => simp [intOf]; omega
          · obtain rfl : k = 20 := by omega
            obtain rfl : x = 0 := by
              rcases HK.out with ⟨e, h⟩ | ⟨e, i, hi, h⟩
              · exact e
              · exfalso
                have := Hall.out _ (getD_memL L 0 (i := i) (by rw [HL.out]; exact hi))
                omega
            clear HK
            go_wp2_with (first
              | (go_at_call 13; refine (key_any _ _).mono ?_; rintro e w' ⟨rfl, rfl⟩)
              | (go_at_call 12; refine (CL1.out _ _).mono ?_; rintro e w3 ⟨rfl, hb3⟩))
            go_region_with (first
              | (go_at_call 13; refine (key_any _ _).mono ?_; rintro e w' ⟨rfl, rfl⟩)
              | (go_at_call 21; refine (CL2.out _ _).mono ?_; rintro e w4 ⟨rfl, hb4⟩))
            all_goals
              go_wp2_with (go_at_call 14; refine (known_any _).mono ?_; rintro e w5 ⟨rfl, hb5⟩)
              go_returns
              exact ⟨by first | rfl | (simp; done), next0 (next1d (next1 hb hb3) hb4) hb5⟩
end Go.Proofs.Ytdmhjcnijebfgaa
