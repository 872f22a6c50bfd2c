/- The walk of hemiola/hemiolalaw09.SpellingLeast: it returns true, and writes nothing that was there. -/
import Derived.Test.YtdmhjcnijebfgaaSleast
import Derived.Test.YtdmhjcnijebfgaaSopen
import Derived.OpenShut
namespace Go.Proofs.Ytdmhjcnijebfgaa
open Go.RowKit
set_option linter.unusedVariables false
theorem prod_at : ∀ (E : List (List Pit)) (y : List Pit), y ∈ prod E → ∀ i, i < E.length → y.getD i default ∈ E.getD i [] := by
  intro E
  induction E with
  | nil => intro y _ i hi; exact absurd hi (Nat.not_lt_zero _)
  | cons l E ih =>
    intro y hy i hi
    simp only [prod, List.mem_flatMap, List.mem_map] at hy
    obtain ⟨q, hq, z, hz, rfl⟩ := hy
    cases i with
    | zero => exact hq
    | succ i => exact ih z hz i (by simpa using hi)
set_option maxRecDepth 100000 in
set_option maxHeartbeats 8000000 in
theorem walkSpellingLeast {w : World} (A : Option Addr) (len cap : Nat) (L0 : List Int) (h0 : len ≤ cap ∧ cap ≤ maxLen ∧ L0.length = len ∧ Rd w w.heap.size A (ints L0) ∧ ∀ n ∈ L0, (Lit.int .i64 n).wf = true) (f0 : Int) (_wf : (Lit.int .i64 f0).wf = true) (_w : World) :
    Calls Try.prog 4 #[.slice A len cap, .int .i64 f0] w fun e w' => e = .returned (.bool true) ∧ Below w.heap.size w w' := by
  obtain ⟨hlc, hcm, rfl, hrd, h5⟩ := h0
  have cn := numbers_any A cap L0 60 w (Nat.le_trans hlc hcm) (by decide) hrd
  have hNl := numL_len L0 60
  have HNo := Lib.hid (numL_ok L0 60)
  clear h5 _wf hrd hcm
  generalize numL L0 60 = l at *
  obtain ⟨hf, hf'⟩ := keyI_bd f0
  have ck := key_any f0
  generalize keyI f0 = f at *
  have HE1 : Hid (∀ L ∈ l.map enh, L ≠ [] ∧ ∀ p ∈ L, okQ p) := Lib.hid (fun L hL => by
    obtain ⟨n, hn, rfl⟩ := List.mem_map.1 hL
    exact ⟨enh_ne (HNo.out n hn).1 (HNo.out n hn).2, fun p hp => (enh_all hp).1⟩)
  obtain ⟨D, hD⟩ : ∃ D, D = bst (cQ f) dQ (l.map enh) := ⟨_, rfl⟩
  have hDl : D.length = l.length := by rw [hD, bst_len f _ (fun L hL => (HE1.out L hL).1), List.length_map]
  have HDok : Hid (∀ p ∈ D, okQ p) := Lib.hid (by rw [hD]; exact bst_ok f _ HE1.out)
  have HDn : Hid (∀ i, i < l.length → numQ (D.getD i default) = l.getD i 0) := Lib.hid (fun i hi => by
    have h1 := prod_at _ _ (bst_first (cQ f) dQ (l.map enh) (fun L hL => (HE1.out L hL).1)).mem i (by rw [List.length_map]; exact hi)
    rw [← hD, map_getD l enh 0 [] hi] at h1
    exact (enh_all h1).2)
  have HD := Lib.hid hD
  have HDl := Lib.hid hDl
  clear hD hDl HE1
  go_enter Try.func4, Try.ntmps4
  go_wp2_with fail
  refine cn.mono ?_
  rintro e w1 ⟨v, rfl, hacc⟩
  obtain ⟨A1, c1, hv, hc1, hcm1, hrd1⟩ := acc_form hacc
  have hb1 := hacc.below
  subst hv
  have H1 := Lib.hid hrd1
  clear cn hacc hrd1 hcm1 hc1
  have cs := spell_ok A1 c1 l f w1 H1.out (by omega) hf hf' HNo.out
  rw [← HD.out, HDl.out] at cs
  go_wp2_with (go_at_call 13; refine (ck _).mono ?_; rintro e w' ⟨rfl, rfl⟩)
  refine cs.mono ?_
  rintro e w2 ⟨⟨A2, c2, rfl, hc2, hm2, hrd2⟩, hb2⟩
  have H2 := Lib.hid hrd2
  clear cs hrd2 hc2 hm2
  go_wp2_with (go_at_call 14; refine (known_any _).mono ?_; rintro e w3 ⟨rfl, hb3⟩)
  have H1' := Lib.hid (rd_below (rd_below H1.out hb2) hb3)
  have H2' := Lib.hid (rd_below H2.out hb3)
  have hb13 : Below w.heap.size w w3 := next0 (next0 hb1 hb2) hb3
  clear H1 H2 hb1 hb2 hb3
  go_loopw [7] (fun i wr => ∃ k : Nat, k ≤ l.length ∧ i = .int .i64 (k : Int) ∧ Below w3.heap.size w3 wr) (fun i _ => l.length - (intOf i).toNat)
  case atStart => exact ⟨0, by omega, rfl, Below.refl _ _⟩
  case round =>
    obtain ⟨k, hk, rfl, hb⟩ := hrel
    by_cases hlt : k < l.length
    · have i0 : (0 : Int) ≤ (k : Int) := by omega
      have i1 : (k : Int) < (l.length : Int) := by omega
      obtain ⟨b, off, rfl, hlb, q0, q1, q2⟩ := rdP H2'.out (k := k) (by rw [HDl.out]; exact hlt)
      obtain ⟨b', off', rfl, hlb', q3⟩ := rdI H1'.out hlt
      have lc := fun (b i : Nat) (v : Value) (hbw : b < w3.heap.size) (h : w3.cell? ⟨b, i, none⟩ = some v) (sx : Later wr.heap.size wr) => later_cell ((hb.cell (p := ⟨b, i, none⟩) hbw).trans h) (Nat.lt_of_lt_of_le hbw hb.size) sx
      have hok := HDok.out _ (getD_memL D default (i := k) (by rw [HDl.out]; exact hlt))
      have hnum := HDn.out k hlt
      have f0' := lc _ _ _ hlb q0
      have f1 := lc _ _ _ hlb q1
      have f2 := lc _ _ _ hlb q2
      have f3 := lc _ _ _ hlb' q3
      have hnb := HNo.out _ (getD_memL l 0 hlt)
      clear lc q0 q1 q2 q3
      generalize D.getD k default = p at *
      obtain ⟨s, al, o⟩ := p
      have hnum' : num s al o = l.getD k 0 := hnum
      rw [← hnum'] at f3
      have Hok : Hid (okP s al o) := Lib.hid hok
      try dsimp only at f0' f1 f2
      clear hnum hnum' hok hnb
      go_wp2_with fail
      refine wp_region_later (by kernel_rfl) (by kernel_rfl) ?_
      repeat (go_big_quiet_step ((first | (go_at_call 17; exact later_calls (Nat.le_refl _) (exists_ok _ _ _ _ Hok.out)) | (go_at_call 18; exact later_calls (Nat.le_refl _) (rnumber_any _ _ _ _ Hok.out.1)))))
      refine wpQuiet_nil ?_
      intro w5 hb5
      clear f0' f1 f2 f3
      go_wp2
      go_roundw
      case rel => exact ⟨k + 1, by omega, by go_num, next0 hb hb5⟩
      case measure => simp [intOf]; omega
    · obtain rfl : k = l.length := by omega
      have cc := fun (wq : World) (h : Below wr.heap.size wr wq) => rcost_any A2 c2 D f wq hf hf' (rd_below (rd_below H2'.out hb) h) (by rw [HDl.out]; omega) HDok.out
      rw [HDl.out] at cc
      have cl := fun (wq : World) (h : Below wr.heap.size wr wq) => rleast_any A1 c1 l f wq hf hf' (rd_below (rd_below H1'.out hb) h) (by omega) HNo.out
      rw [← HD.out] at cl
      have CC := Lib.hid cc
      have CL := Lib.hid cl
      clear cc cl
      go_wp2_with (go_at_call 13; refine (ck _).mono ?_; rintro e w' ⟨rfl, rfl⟩)
      refine (CC.out _ (Below.refl _ _)).mono ?_
      rintro e w6 ⟨rfl, hb6⟩
      go_wp2_with (go_at_call 13; refine (ck _).mono ?_; rintro e w' ⟨rfl, rfl⟩)
      refine (CL.out _ hb6).mono ?_
      rintro e w7 ⟨rfl, hb7⟩
      go_wp2_with fail
      go_returns
      exact ⟨by first | rfl | (simp; done), next0 (next0 (next0 hb13 hb) hb6) hb7⟩
end Go.Proofs.Ytdmhjcnijebfgaa
