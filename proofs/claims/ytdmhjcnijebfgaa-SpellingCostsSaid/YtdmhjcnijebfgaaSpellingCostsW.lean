/- The walk of hemiola/hemiolalaw09.SpellingCosts: it returns true, and writes nothing that was there. -/
import Derived.Test.YtdmhjcnijebfgaaScosts
import Derived.Test.YtdmhjcnijebfgaaSopen
import Derived.OpenShut
namespace Go.Proofs.Ytdmhjcnijebfgaa
open Go.RowKit
set_option linter.unusedVariables false
theorem rd_takeP {w : World} {B : Nat} {A : Option Addr} {L : List Pit} (h : Rd w B A (pitsC L)) (m : Nat) : Rd w B A (pitsC (L.take m)) := by
  rcases h with h | ⟨b, off, hA, hB, hc⟩
  · have : L = [] := by
      have := congrArg List.length h
      rw [pitsC_len] at this
      have h0 : L.length * 3 = 0 := this
      exact List.eq_nil_of_length_eq_zero (by omega)
    subst this
    exact .inl (by rw [List.take_nil]; rfl)
  · refine .inr ⟨b, off, hA, hB, fun j u hu => hc j u ?_⟩
    have hsplit : pitsC L = pitsC (L.take m) ++ pitsC (L.drop m) := by
      have := congrArg pitsC (List.take_append_drop m L).symm
      rw [this]; unfold pitsC; rw [List.flatMap_append]
    rw [hsplit, List.getElem?_append_left (List.getElem?_eq_some_iff.1 hu).1]
    exact hu
set_option maxRecDepth 100000 in
set_option maxHeartbeats 4000000 in
theorem walkSpellingCosts {w : World} (A : Option Addr) (len cap : Nat) (L0 : List Pit) (h0 : len ≤ cap ∧ cap ≤ maxLen ∧ L0.length = len ∧ Rd w w.heap.size A (pitsC L0) ∧ ∀ p ∈ L0, (-9223372036854775808 ≤ p.1 ∧ p.1 < 9223372036854775808) ∧ (-9223372036854775808 ≤ p.2.1 ∧ p.2.1 < 9223372036854775808) ∧ (-9223372036854775808 ≤ p.2.2 ∧ p.2.2 < 9223372036854775808)) (f : Int) (_wf : (Lit.int .i64 f).wf = true) (_w : World) :
    Calls Try.prog 5 #[.slice A len cap, .int .i64 f] w fun e w' => e = .returned (.bool true) ∧ Below w.heap.size w w' := by
  obtain ⟨hlc, hcm, rfl, hrd, h5⟩ := h0
  clear h5 _wf
  have Hlm : Hid (L0.length ≤ maxLen) := Lib.hid (Nat.le_trans hlc hcm)
  have hlc' : (L0.length : Int) ≤ (cap : Int) := by omega
  obtain ⟨n, hn⟩ : ∃ n, n = min L0.length 40 := ⟨_, rfl⟩
  have hL : (L0.take n).length = n := by rw [List.length_take]; omega
  have hrd1 := rd_takeP hrd n
  generalize hLL : L0.take n = L at *
  have hn40 : n ≤ 40 := by omega
  have hncap : (n : Int) ≤ (cap : Int) := by omega
  have HL := Lib.hid hL
  have HA := Lib.hid hrd1
  clear hL hrd1 hrd hLL
  clear hcm
  have hcase : ((L0.length : Int) ≤ 40 ∧ n = L0.length) ∨ (40 < (L0.length : Int) ∧ n = 40) := by omega
  clear hn
  have hrg : (f < -7 ∨ 7 < f) ∨ (-7 ≤ f ∧ f ≤ 7) := by omega
  rcases hcase with ⟨hc40, rfl⟩ | ⟨hc40, rfl⟩
  · rcases hrg with hr | ⟨hf, hf'⟩
    · rcases hr with hr | hr
      · go_enter Try.func5, Try.ntmps5
        go_wp2_with (first
          | (go_at_call 21; refine (pcost_range _ _ _ _ _ (by unfold maxLen; omega) (.inl hr)).mono ?_; rintro e w1 ⟨rfl, hb1⟩)
          | (go_at_call 14; refine (known_any _).mono ?_; rintro e w2 ⟨rfl, hb2⟩))
        go_returns
        exact ⟨rfl, next0 hb1 hb2⟩
      · have hr' : -7 ≤ f := by omega
        go_enter Try.func5, Try.ntmps5
        go_wp2_with (first
          | (go_at_call 21; refine (pcost_range _ _ _ _ _ (by unfold maxLen; omega) (.inr hr)).mono ?_; rintro e w1 ⟨rfl, hb1⟩)
          | (go_at_call 14; refine (known_any _).mono ?_; rintro e w2 ⟨rfl, hb2⟩))
        go_returns
        exact ⟨rfl, next0 hb1 hb2⟩
    · have cc := pcost_any A cap L f w hf hf' HA.out (by rw [HL.out]; omega)
      rw [HL.out] at cc
      by_cases hall : ∀ p ∈ L, okQ p
      · have Hall := Lib.hid hall
        have crr := fun (w1 : World) (h : Below w.heap.size w w1) => rcost_any A cap L f w1 hf hf' (rd_below HA.out h) (by rw [HL.out]; omega) hall
        rw [HL.out] at crr
        have CR := Lib.hid crr
        clear crr hall
        go_enter Try.func5, Try.ntmps5
        go_wp2_with fail
        refine cc.mono ?_
        rintro e w1 ⟨hb1, h1, h2⟩
        obtain rfl := h1 Hall.out
        clear h1 h2 cc
        go_wp2_with (go_at_call 14; refine (known_any _).mono ?_; rintro e w2 ⟨rfl, hb2⟩)
        have hb12 := next0 hb1 hb2
        clear hb1 hb2
        go_loopw [7] (fun i wr => ∃ k : Nat, k ≤ L0.length ∧ i = .int .i64 (k : Int) ∧ Below w.heap.size w wr) (fun i _ => L0.length - (intOf i).toNat)
        case atStart => exact ⟨0, by omega, rfl, hb12⟩
        case round =>
          clear hb12
          obtain ⟨k, hk, rfl, hb⟩ := hrel
          by_cases hlt : k < L0.length
          · have i0 : (0 : Int) ≤ (k : Int) := by omega
            have i1 : (k : Int) < ((L0.length : Nat) : Int) := by omega
            have i2 : (k : Int) < (L0.length : Int) := by omega
            obtain ⟨b, off, rfl, hlb, q0, q1, q2⟩ := rdP HA.out (k := k) (by rw [HL.out]; exact hlt)
            have c0 := (hb.cell (p := ⟨b, off + k * 3, none⟩) hlb).trans q0
            have c1 := (hb.cell (p := ⟨b, off + k * 3 + 1, none⟩) hlb).trans q1
            have c2 := (hb.cell (p := ⟨b, off + k * 3 + 2, none⟩) hlb).trans q2
            have hok := Hall.out _ (getD_memL L default (i := k) (by rw [HL.out]; exact hlt))
            have Hok := Lib.hid hok
            clear q0 q1 q2 hok
            generalize L.getD k default = p at *
            obtain ⟨s, al, o⟩ := p
            dsimp only at c0 c1 c2
            go_wp2_with (go_at_call 17; refine (exists_ok _ _ _ _ Hok.out).mono ?_; rintro e w2 ⟨rfl, hb2⟩)
            go_roundw
            case rel => exact ⟨k + 1, by omega, by go_num, next0 hb hb2⟩
            case measure => simp [intOf]; omega
          · obtain rfl : k = L0.length := by omega
            have cr := CR.out _ hb
            clear CR
            go_wp2_with fail
            refine cr.mono ?_
            rintro e w3 ⟨rfl, hb3⟩
            go_wp2_with fail
            go_returns
            exact ⟨by first | rfl | (simp; done), next0 hb hb3⟩
      · have hbad : ∃ p ∈ L, ¬ okQ p := by
          rcases Classical.em (∃ p ∈ L, ¬ okQ p) with h | h
          · exact h
          · exact absurd (fun p hp => Classical.byContradiction fun hn => h ⟨p, hp, hn⟩) hall
        have Hbad := Lib.hid hbad
        clear hall hbad
        go_enter Try.func5, Try.ntmps5
        go_wp2_with fail
        refine cc.mono ?_
        rintro e w1 ⟨hb1, h1, h2⟩
        obtain rfl := h2 Hbad.out
        clear h1 h2 cc
        go_wp2_with (go_at_call 14; refine (known_any _).mono ?_; rintro e w2 ⟨rfl, hb2⟩)
        have hb12 := next0 hb1 hb2
        clear hb1 hb2
        go_loopw [7] (fun i wr => ∃ k : Nat, k ≤ L0.length ∧ i = .int .i64 (k : Int) ∧ Hid (∀ i, i < k → okQ (L.getD i default)) ∧ Below w.heap.size w wr) (fun i _ => L0.length - (intOf i).toNat)
        case atStart => exact ⟨0, by omega, rfl, Lib.hid (fun i hi => absurd hi (Nat.not_lt_zero _)), hb12⟩
        case round =>
          clear hb12
          obtain ⟨k, hk, rfl, HK, hb⟩ := hrel
          by_cases hlt : k < L0.length
          · have i0 : (0 : Int) ≤ (k : Int) := by omega
            have i1 : (k : Int) < ((L0.length : Nat) : Int) := by omega
            have i2 : (k : Int) < (L0.length : Int) := by omega
            obtain ⟨b, off, rfl, hlb, q0, q1, q2⟩ := rdP HA.out (k := k) (by rw [HL.out]; exact hlt)
            have c0 := (hb.cell (p := ⟨b, off + k * 3, none⟩) hlb).trans q0
            have c1 := (hb.cell (p := ⟨b, off + k * 3 + 1, none⟩) hlb).trans q1
            have c2 := (hb.cell (p := ⟨b, off + k * 3 + 2, none⟩) hlb).trans q2
            clear q0 q1 q2
            by_cases hok : okQ (L.getD k default)
            · have HK1 : Hid (∀ i, i < k + 1 → okQ (L.getD i default)) := Lib.hid (fun i hi => by
                by_cases e : i = k
                · subst e; exact hok
                · exact HK.out i (by omega))
              have Hok := Lib.hid hok
              clear hok
              generalize L.getD k default = p at *
              obtain ⟨s, al, o⟩ := p
              dsimp only at c0 c1 c2
              go_wp2_with (go_at_call 17; refine (exists_ok _ _ _ _ Hok.out).mono ?_; rintro e w2 ⟨rfl, hb2⟩)
              go_roundw
              case rel => exact ⟨k + 1, by omega, by go_num, HK1, next0 hb hb2⟩
              case measure => simp [intOf]; omega
            · generalize L.getD k default = p at *
              obtain ⟨s, al, o⟩ := p
              dsimp only at c0 c1 c2
              have Hok : Hid (¬ okP s al o) := Lib.hid hok
              clear hok
              go_wp2_with (go_at_call 17; refine (exists_bad _ _ _ _ Hok.out).mono ?_; rintro e w2 ⟨rfl, hb2⟩)
              go_returns
              exact ⟨by first | rfl | (simp; done), next0 hb hb2⟩
          · exfalso
            obtain ⟨p, hp, hn⟩ := Hbad.out
            exact hn (mem_take_ok (L := L) (k := k) HK.out p (by rw [List.take_of_length_le (by rw [HL.out]; omega)]; exact hp))
  · rcases hrg with hr | ⟨hf, hf'⟩
    · rcases hr with hr | hr
      · go_enter Try.func5, Try.ntmps5
        go_wp2_with (first
          | (go_at_call 21; refine (pcost_range _ _ _ _ _ (by unfold maxLen; omega) (.inl hr)).mono ?_; rintro e w1 ⟨rfl, hb1⟩)
          | (go_at_call 14; refine (known_any _).mono ?_; rintro e w2 ⟨rfl, hb2⟩))
        go_returns
        exact ⟨rfl, next0 hb1 hb2⟩
      · have hr' : -7 ≤ f := by omega
        go_enter Try.func5, Try.ntmps5
        go_wp2_with (first
          | (go_at_call 21; refine (pcost_range _ _ _ _ _ (by unfold maxLen; omega) (.inr hr)).mono ?_; rintro e w1 ⟨rfl, hb1⟩)
          | (go_at_call 14; refine (known_any _).mono ?_; rintro e w2 ⟨rfl, hb2⟩))
        go_returns
        exact ⟨rfl, next0 hb1 hb2⟩
    · have cc := pcost_any A cap L f w hf hf' HA.out (by rw [HL.out]; omega)
      rw [HL.out] at cc
      by_cases hall : ∀ p ∈ L, okQ p
      · have Hall := Lib.hid hall
        have crr := fun (w1 : World) (h : Below w.heap.size w w1) => rcost_any A cap L f w1 hf hf' (rd_below HA.out h) (by rw [HL.out]; omega) hall
        rw [HL.out] at crr
        have CR := Lib.hid crr
        clear crr hall
        go_enter Try.func5, Try.ntmps5
        go_wp2_with fail
        refine cc.mono ?_
        rintro e w1 ⟨hb1, h1, h2⟩
        obtain rfl := h1 Hall.out
        clear h1 h2 cc
        go_wp2_with (go_at_call 14; refine (known_any _).mono ?_; rintro e w2 ⟨rfl, hb2⟩)
        have hb12 := next0 hb1 hb2
        clear hb1 hb2
        go_loopw [7] (fun i wr => ∃ k : Nat, k ≤ 40 ∧ i = .int .i64 (k : Int) ∧ Below w.heap.size w wr) (fun i _ => 40 - (intOf i).toNat)
        case atStart => exact ⟨0, by omega, rfl, hb12⟩
        case round =>
          clear hb12
          obtain ⟨k, hk, rfl, hb⟩ := hrel
          by_cases hlt : k < 40
          · have i0 : (0 : Int) ≤ (k : Int) := by omega
            have i1 : (k : Int) < ((40 : Nat) : Int) := by omega
            have i2 : (k : Int) < (40 : Int) := by omega
            obtain ⟨b, off, rfl, hlb, q0, q1, q2⟩ := rdP HA.out (k := k) (by rw [HL.out]; exact hlt)
            have c0 := (hb.cell (p := ⟨b, off + k * 3, none⟩) hlb).trans q0
            have c1 := (hb.cell (p := ⟨b, off + k * 3 + 1, none⟩) hlb).trans q1
            have c2 := (hb.cell (p := ⟨b, off + k * 3 + 2, none⟩) hlb).trans q2
            have hok := Hall.out _ (getD_memL L default (i := k) (by rw [HL.out]; exact hlt))
            have Hok := Lib.hid hok
            clear q0 q1 q2 hok
            generalize L.getD k default = p at *
            obtain ⟨s, al, o⟩ := p
            dsimp only at c0 c1 c2
            go_wp2_with (go_at_call 17; refine (exists_ok _ _ _ _ Hok.out).mono ?_; rintro e w2 ⟨rfl, hb2⟩)
            go_roundw
            case rel => exact ⟨k + 1, by omega, by go_num, next0 hb hb2⟩
            case measure => simp [intOf]; omega
          · obtain rfl : k = 40 := by omega
            have cr := CR.out _ hb
            clear CR
            go_wp2_with fail
            refine cr.mono ?_
            rintro e w3 ⟨rfl, hb3⟩
            go_wp2_with fail
            go_returns
            exact ⟨by first | rfl | (simp; done), next0 hb hb3⟩
      · have hbad : ∃ p ∈ L, ¬ okQ p := by
          rcases Classical.em (∃ p ∈ L, ¬ okQ p) with h | h
          · exact h
          · exact absurd (fun p hp => Classical.byContradiction fun hn => h ⟨p, hp, hn⟩) hall
        have Hbad := Lib.hid hbad
        clear hall hbad
        go_enter Try.func5, Try.ntmps5
        go_wp2_with fail
        refine cc.mono ?_
        rintro e w1 ⟨hb1, h1, h2⟩
        obtain rfl := h2 Hbad.out
        clear h1 h2 cc
        go_wp2_with (go_at_call 14; refine (known_any _).mono ?_; rintro e w2 ⟨rfl, hb2⟩)
        have hb12 := next0 hb1 hb2
        clear hb1 hb2
        go_loopw [7] (fun i wr => ∃ k : Nat, k ≤ 40 ∧ i = .int .i64 (k : Int) ∧ Hid (∀ i, i < k → okQ (L.getD i default)) ∧ Below w.heap.size w wr) (fun i _ => 40 - (intOf i).toNat)
        case atStart => exact ⟨0, by omega, rfl, Lib.hid (fun i hi => absurd hi (Nat.not_lt_zero _)), hb12⟩
        case round =>
          clear hb12
          obtain ⟨k, hk, rfl, HK, hb⟩ := hrel
          by_cases hlt : k < 40
          · have i0 : (0 : Int) ≤ (k : Int) := by omega
            have i1 : (k : Int) < ((40 : Nat) : Int) := by omega
            have i2 : (k : Int) < (40 : Int) := by omega
            obtain ⟨b, off, rfl, hlb, q0, q1, q2⟩ := rdP HA.out (k := k) (by rw [HL.out]; exact hlt)
            have c0 := (hb.cell (p := ⟨b, off + k * 3, none⟩) hlb).trans q0
            have c1 := (hb.cell (p := ⟨b, off + k * 3 + 1, none⟩) hlb).trans q1
            have c2 := (hb.cell (p := ⟨b, off + k * 3 + 2, none⟩) hlb).trans q2
            clear q0 q1 q2
            by_cases hok : okQ (L.getD k default)
            · have HK1 : Hid (∀ i, i < k + 1 → okQ (L.getD i default)) := Lib.hid (fun i hi => by
                by_cases e : i = k
                · subst e; exact hok
                · exact HK.out i (by omega))
              have Hok := Lib.hid hok
              clear hok
              generalize L.getD k default = p at *
              obtain ⟨s, al, o⟩ := p
              dsimp only at c0 c1 c2
              go_wp2_with (go_at_call 17; refine (exists_ok _ _ _ _ Hok.out).mono ?_; rintro e w2 ⟨rfl, hb2⟩)
              go_roundw
              case rel => exact ⟨k + 1, by omega, by go_num, HK1, next0 hb hb2⟩
              case measure => simp [intOf]; omega
            · generalize L.getD k default = p at *
              obtain ⟨s, al, o⟩ := p
              dsimp only at c0 c1 c2
              have Hok : Hid (¬ okP s al o) := Lib.hid hok
              clear hok
              go_wp2_with (go_at_call 17; refine (exists_bad _ _ _ _ Hok.out).mono ?_; rintro e w2 ⟨rfl, hb2⟩)
              go_returns
              exact ⟨by first | rfl | (simp; done), next0 hb hb2⟩
          · exfalso
            obtain ⟨p, hp, hn⟩ := Hbad.out
            exact hn (mem_take_ok (L := L) (k := k) HK.out p (by rw [List.take_of_length_le (by rw [HL.out]; omega)]; exact hp))
end Go.Proofs.Ytdmhjcnijebfgaa
