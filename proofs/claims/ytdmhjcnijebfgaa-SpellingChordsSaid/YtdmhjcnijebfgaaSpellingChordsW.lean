/- The walk of hemiola/hemiolalaw09.SpellingChords: it returns true, and writes nothing that was there. -/
import Derived.Test.YtdmhjcnijebfgaaSrise
import Derived.Test.YtdmhjcnijebfgaaSopen
import Derived.OpenShut
namespace Go.Proofs.Ytdmhjcnijebfgaa
open Go.RowKit
set_option linter.unusedVariables false
set_option maxRecDepth 100000 in
set_option maxHeartbeats 8000000 in
theorem walkSpellingChords {w : World} (A : Option Addr) (len cap : Nat) (L0 : List Int) (h0 : len ≤ cap ∧ cap ≤ maxLen ∧ L0.length = len ∧ Rd w w.heap.size A (ints L0) ∧ ∀ n ∈ L0, (Lit.int .i64 n).wf = true) (f0 : Int) (_wf : (Lit.int .i64 f0).wf = true) (_w : World) :
    Calls Try.prog 9 #[.slice A len cap, .int .i64 f0] w fun e w' => e = .returned (.bool true) ∧ Below w.heap.size w w' := by
  obtain ⟨hlc, hcm, rfl, hrd, h5⟩ := h0
  have cn := rising_any A cap L0 5 w (Nat.le_trans hlc hcm) (by decide) hrd
  have hN0 := numL_len L0 5
  have hNl : (risT (numL L0 5) (numL L0 5).length).length ≤ 5 := Nat.le_trans (risT_len _ _) hN0
  have HNo := Lib.hid (show ∀ n ∈ risT (numL L0 5) (numL L0 5).length, 0 ≤ n ∧ n ≤ 127 from fun n hn => numL_ok L0 5 n (risT_mem _ _ (Nat.le_refl _) n hn))
  have Hri := Lib.hid (risT_rise (numL L0 5) (numL L0 5).length)
  clear h5 _wf hrd hcm hN0
  unfold RisPost at cn
  generalize risT (numL L0 5) (numL L0 5).length = l at *
  obtain ⟨hf, hf'⟩ := keyI_bd f0
  have ck := key_any f0
  generalize keyI f0 = f at *
  go_enter Try.func9, Try.ntmps9
  go_wp2_with fail
  refine cn.mono ?_
  rintro e w1 ⟨v, rfl, hacc⟩
  obtain ⟨A1, c1, hv, hc1, hcm1, hrd1⟩ := acc_form hacc
  have hb1 := hacc.below
  subst hv
  have H1 := Lib.hid hrd1
  clear cn hacc hrd1 hcm1 hc1
  have cs := chord_in A1 c1 l f w1 H1.out (by omega) hf hf' HNo.out
  go_wp2_with (go_at_call 13; refine (ck _).mono ?_; rintro e w' ⟨rfl, rfl⟩)
  refine cs.mono ?_
  rintro e w2 ⟨hb2, h2, _⟩
  obtain ⟨A2, c2, rfl, hc2, hm2, hrd2⟩ := h2 Hri.out
  have H2 := Lib.hid hrd2
  clear cs hrd2 hc2 hm2 h2
  have hE : ∀ L ∈ l.map enh, L ≠ [] := fun L hL => by
    obtain ⟨n, hn, rfl⟩ := List.mem_map.1 hL
    exact enh_ne (HNo.out n hn).1 (HNo.out n hn).2
  have hDl : (wbst f (l.map enh)).length ≤ 5 := by
    obtain ⟨y, hy⟩ := prod_ne (l.map enh) hE
    have h := (lIdx_fm (wtQ f) (prod (l.map enh)) (List.length_pos_iff.2 (fun e => by rw [e] at hy; cases hy))).mem
    have h' : wbst f (l.map enh) ∈ prod (l.map enh) := h
    rw [prod_each h', List.length_map]
    exact hNl
  have hD : ∃ D, D = wbst f (l.map enh) := ⟨_, rfl⟩
  clear hE
  go_wp2_with (first | (go_at_call 14; refine (known_any _).mono ?_; rintro e w3 ⟨rfl, hb3⟩) | (go_at_call 13; refine (ck _).mono ?_; rintro e w3 ⟨rfl, rfl⟩))
  refine (rchord_any A1 c1 l f w3 hf hf' (rd_below (rd_below H1.out hb2) hb3) hNl HNo.out).mono ?_
  rintro e w4 ⟨⟨A4, c4, rfl, hc4, hm4, hrd4⟩, hb4⟩
  have csm := same_same A2 A4 c2 c4 _ w4 (rd_below (rd_below H2.out hb3) hb4) hrd4 (by omega)
  clear hrd4 hc4 hm4 H1 H2
  generalize wbst f (l.map enh) = D at *
  go_wp2_with fail
  refine csm.mono ?_
  rintro e w5 ⟨rfl, hb5⟩
  go_wp2_with fail
  go_returns
  exact ⟨by first | rfl | (simp; done), next0 (next0 (next0 (next0 hb1 hb2) hb3) hb4) hb5⟩
end Go.Proofs.Ytdmhjcnijebfgaa
