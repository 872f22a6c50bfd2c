/- The walk of hemiola/hemiolalaw09.SpellingAlone: it returns true, and writes nothing that was there. -/
import Derived.Test.YtdmhjcnijebfgaaSref9
import Derived.Test.YtdmhjcnijebfgaaSopen
import Derived.OpenShut
namespace Go.Proofs.Ytdmhjcnijebfgaa
open Go.RowKit
set_option linter.unusedVariables false
theorem one_mem {α : Type} {L : List α} {x y : α} (h : L.length ≤ 1) (hx : x ∈ L) (hy : y ∈ L) : x = y := by
  match L, h, hx, hy with
  | [a], _, hx, hy => rw [List.mem_singleton.1 hx, List.mem_singleton.1 hy]
theorem mem_enh {p : Pit} (h : okQ p) : p ∈ enh (numQ p) ∧ 0 ≤ numQ p ∧ numQ p ≤ 127 := by
  have hh : okQ p := h
  obtain ⟨⟨h0, h6, a0, a4, o0, o9⟩, n0, n1⟩ := h
  refine ⟨?_, n0, n1⟩
  rw [enh_eq (n := numQ p) n0 n1]
  unfold enhR
  refine List.mem_filter.2 ⟨?_, by simp⟩
  unfold allT
  refine List.mem_filter.2 ⟨List.mem_map.2 ⟨35 * (p.2.2 + 1).toNat + 5 * p.1.toNat + (p.2.1 + 2).toNat, List.mem_range.2 (by omega), ?_⟩, by simpa using hh⟩
  rw [allAt_of _ _ _ (by omega) (by omega)]
  have e1 : ((p.1.toNat : Nat) : Int) = p.1 := by omega
  have e2 : (((p.2.1 + 2).toNat : Nat) : Int) - 2 = p.2.1 := by omega
  have e3 : (((p.2.2 + 1).toNat : Nat) : Int) - 1 = p.2.2 := by omega
  rw [e1, e2, e3]
theorem alone_bst {f : Int} {p : Pit} (hf : -7 ≤ f) (hf' : f ≤ 7) (h : okQ p) (ho : outQ f p = 0) : bst (cQ f) dQ ([numQ p].map enh) = [p] := by
  obtain ⟨hm, n0, n1⟩ := mem_enh h
  have hx := fm_is (fun x => rst (cQ f) dQ [] x) (enh (numQ p)) (List.length_pos_iff.2 (enh_ne n0 n1))
  have hle := hx.le hm
  have hmem := hx.mem
  show fm (fun x => rst (cQ f) dQ [] x) (enh (numQ p)) :: [] = [p]
  generalize fm (fun x => rst (cQ f) dQ [] x) (enh (numQ p)) = q at *
  have hq := out_bd hf hf' (enh_all hmem).1
  have hle' : 3 * outQ f q ≤ 3 * outQ f p := hle
  have hq0 : outQ f q = 0 := by omega
  rw [one_mem (inK_le hf hf' n0 n1) (List.mem_filter.2 ⟨hmem, by simpa using hq0⟩) (List.mem_filter.2 ⟨hm, by simpa using ho⟩)]
theorem rd_one {w : World} {B b off : Nat} {L : List Pit} (h : Rd w B (some ⟨b, off, none⟩) (pitsC L)) {k : Nat} (hk : k < L.length) : Rd w B (some ⟨b, off + k * 3, none⟩) (pitsC [L.getD k default]) := by
  obtain ⟨b', off', e, hb, hc⟩ := rd_pos h (by rw [pitsC_len]; omega)
  injection e with e
  injection e with e1 e2
  subst e1 e2
  obtain ⟨p0, p1, p2⟩ := pitsC_at L k hk
  refine .inr ⟨b, off + k * 3, rfl, hb, fun j u hu => ?_⟩
  rw [Nat.add_assoc]
  refine hc _ _ ?_
  have hl := (List.getElem?_eq_some_iff.1 hu).1
  rw [pitsC_len] at hl
  rcases j with _ | _ | _ | j
  · rw [← hu]; exact p0
  · rw [← hu]; exact p1
  · rw [← hu]; exact p2
  · have : j + 3 < 1 * 3 := hl
    omega
set_option maxHeartbeats 4000000 in
theorem walkSpellingAlone {w : World} (f : Int) (_wf : (Lit.int .i64 f).wf = true) (n : Int) (_wn : (Lit.int .i64 n).wf = true) (_w : World) :
    Calls Try.prog 8 #[.int .i64 f, .int .i64 n] w fun e w' => e = .returned (.bool true) ∧ Below w.heap.size w w' := by
  clear _wf _wn
  obtain ⟨hk0, hk1⟩ := keyI_bd f
  have hc : ∃ m : Int, (0 ≤ m ∧ m ≤ 116) ∧ ((n < 0 ∧ m = 0) ∨ (0 ≤ n ∧ n ≤ 116 ∧ m = n) ∨ (116 < n ∧ m = 116)) := by
    by_cases h1 : n < 0
    · exact ⟨0, by omega, by omega⟩
    · by_cases h2 : n ≤ 116
      · exact ⟨n, by omega, by omega⟩
      · exact ⟨116, by omega, by omega⟩
  obtain ⟨m, ⟨hm0, hm1⟩, hcase⟩ := hc
  have cs : Calls Try.prog 22 #[.int .i64 (keyI f), .int .i64 m] w (fun e w' => ∃ (L : List Pit) (A : Option Addr) (c : Nat), e = .returned (.tuple #[.slice A 7 c, .int .i64 0]) ∧ 7 ≤ c ∧ L.length = 7 ∧ (∀ p ∈ L, okQ p ∧ outQ (keyI f) p = 0) ∧ Rd w' w'.heap.size A (pitsC L) ∧ Below w.heap.size w w') := (scale_ok (keyI f) m w hk0 hk1 hm0 hm1).mono (by
    rintro e w1 ⟨L, v, W, hL, rfl, hbW, hacc⟩
    obtain ⟨A, c, hv, hcc, hcm, hrd⟩ := acc_form hacc
    rw [hL.1] at hv hcc
    obtain ⟨h7, k, rfl⟩ := hL
    exact ⟨_, A, c, by rw [hv], hcc, h7, scT_ok _ _ k, hrd, hbW.trans (hacc.below.mono hbW.size)⟩)
  have Hk := Lib.hid (And.intro hk0 hk1)
  clear hm0 hm1
  rcases hcase with ⟨h1, rfl⟩ | ⟨h1, h2, rfl⟩ | ⟨h1, rfl⟩
  all_goals
    go_enter Try.func8, Try.ntmps8
    go_wp2_with (go_at_call 13; refine (key_any _ _).mono ?_; rintro e w' ⟨rfl, rfl⟩)
    refine cs.mono ?_
    rintro e w1 ⟨L, A, c, rfl, h7, hL7, hall, hrd, hb1⟩
    have HL7 := Lib.hid hL7
    have Hall := Lib.hid hall
    have HA := Lib.hid hrd
    clear cs hL7 hall hrd
    go_wp2_with (go_at_call 14; refine (known_any _).mono ?_; rintro e w2 ⟨rfl, hb2⟩)
    go_loopw [8] (fun i wr => ∃ k : Nat, k ≤ 7 ∧ i = .int .i64 (k : Int) ∧ Below w1.heap.size w1 wr) (fun i _ => 7 - (intOf i).toNat)
    case atStart => exact ⟨0, by omega, rfl, hb2⟩
    case round =>
      clear hb2
      obtain ⟨k, hk, rfl, hb⟩ := hrel
      by_cases hlt : k < 7
      · have i0 : (0 : Int) ≤ (k : Int) := by omega
        have i1 : (k : Int) < 7 := by omega
        have i2 : (k : Int) + 1 ≤ (c : Int) := by omega
        have i3 : (k : Int) ≤ (k : Int) + 1 := by omega
        have hkL : k < L.length := by rw [HL7.out]; exact hlt
        obtain ⟨b, off, rfl, hlb, q0, q1, q2⟩ := rdP HA.out hkL
        have c0 := (hb.cell (p := ⟨b, off + k * 3, none⟩) hlb).trans q0
        have c1 := (hb.cell (p := ⟨b, off + k * 3 + 1, none⟩) hlb).trans q1
        have c2 := (hb.cell (p := ⟨b, off + k * 3 + 2, none⟩) hlb).trans q2
        have hok := Hall.out _ (getD_memL L default hkL)
        have hone := rd_below (rd_one HA.out hkL) hb
        have hbst := alone_bst Hk.out.1 Hk.out.2 hok.1 hok.2
        have hnb := (mem_enh hok.1).2
        have Hok := Lib.hid hok.1
        have Hone := Lib.hid hone
        have Hbst := Lib.hid hbst
        have Hnb := Lib.hid hnb
        clear q0 q1 q2 hok hone hbst hnb
        generalize L.getD k default = p at *
        obtain ⟨s, al, o⟩ := p
        try dsimp only at c0 c1 c2
        have hlw : b < wr.heap.size := Nat.lt_of_lt_of_le hlb hb.size
        go_wp2_with (go_at_call 17; refine (exists_ok _ _ _ _ Hok.out).mono ?_; rintro e w3 ⟨rfl, hb3⟩; obtain ⟨hc3, hf3⟩ := bcell hb3)
        refine (rnumber_any _ _ _ _ Hok.out.1).mono ?_
        rintro e w4 ⟨rfl, hb4⟩
        go_wp2_with fail
        have hrn := rd_new w4 (ints [num s al o]) INT
        rw [← World.size_alloc w4 (.cells (ints [num s al o]).toArray INT)] at hrn
        have csp := spell_ok (some ⟨w4.heap.size, 0, none⟩) 1 [num s al o] (keyI f) (w4.alloc (.cells #[.int .i64 (num s al o)] INT)) hrn (by show 1 ≤ 1024; decide) Hk.out.1 Hk.out.2 (by intro x hx; rw [List.mem_singleton.1 hx]; exact Hnb.out)
        rw [show [num s al o].map enh = [numQ (s, al, o)].map enh from rfl, Hbst.out] at csp
        clear hc3 hf3 hrn
        refine csp.mono ?_
        rintro e w5 ⟨⟨A5, c5, rfl, hc5, hm5, hrd5⟩, hb5⟩
        have Hrd5 := Lib.hid hrd5
        have hb45 : Below w4.heap.size w4 w5 := base1 hb5
        have hb35 : Below wr.heap.size wr w5 := next0 (next0 hb3 hb4) hb45
        clear csp hrd5 hc5 hm5 hb5 hb45 hb3 hb4 c0 c1 c2
        have i4 : (k : Int) < (c : Int) := by omega
        have csm := fun (wq : World) (h : Below wr.heap.size wr wq) (h5 : Below w5.heap.size w5 wq) (C : Nat) => same_same A5 (some ⟨b, off + k * 3, none⟩) c5 C [(s, al, o)] wq (rd_below Hrd5.out h5) (rd_below Hone.out h) (by show 1 ≤ 65536; decide)
        have Hcsm := Lib.hid csm
        clear csm
        go_wp2_with fail
        refine (Hcsm.out w5 hb35 (Below.refl _ _) _).mono ?_
        rintro e w6 ⟨rfl, hb6⟩
        go_wp2_with fail
        go_roundw
        case rel => exact ⟨k + 1, by omega, by go_num, next0 hb (next0 hb35 hb6)⟩
        case measure => simp [intOf]; omega
      · obtain rfl : k = 7 := by omega
        go_wp2_with fail
        go_returns
        exact ⟨by first | rfl | (simp; done), next0 hb1 hb⟩
end Go.Proofs.Ytdmhjcnijebfgaa
