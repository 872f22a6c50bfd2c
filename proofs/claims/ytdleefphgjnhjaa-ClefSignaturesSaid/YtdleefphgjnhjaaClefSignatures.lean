/- hemiola/hemiolalaw08.ClefSignatures: for every input the law returns true, and each argument reads behind the call as it read before. No condition. -/
import Derived.Test.YtdleefphgjnhjaaKnown
import Derived.Test.YtdleefphgjnhjaaRefsig
import Derived.Test.YtdleefphgjnhjaaRows
import Derived.ProofKit
import Derived.OpenShut
import Derived.ShutString
import Derived.ChangeOld
namespace Go.Proofs.Ytdleefphgjnhjaa
open Go.RowKit
set_option linter.unusedVariables false
theorem map_take_len (l : List Int) (f : Int → Int) (n : Nat) (hn : n ≤ 7) : ((l.take n).map f).length ≤ 65536 := by simp; omega

set_option maxHeartbeats 1000000 in
theorem walkClefSignatures (a0 : Int) (w0 : (Lit.int .i64 a0).wf = true) (a1 : Int) (w1 : (Lit.int .i64 a1).wf = true) (w : World) :
    Calls Try.prog 7 #[.int .i64 a0, .int .i64 a1] w fun e w' => e = .returned (.bool true) ∧ Below w.heap.size w w' := by
  clear w0 w1
  by_cases hk : a0 < 1 ∨ 9 < a0
  · go_enter Try.func7, Try.ntmps7
    go_wp2_with (first
      | (go_at_call 12; refine (known_any _).mono ?_; rintro e w1 ⟨rfl, hb1⟩; have hz1 := hb1.size)
      | (go_at_call 21; refine (csig_kind _ _ _ hk).mono ?_; rintro e w2 ⟨rfl, hb2⟩; have hz2 := hb2.size)
      | (go_at_call 14; refine (valid_bad _ _ hk).mono ?_; rintro e w3 ⟨rfl, hb3⟩))
    go_returns
    exact ⟨rfl, next0 (next0 hb1 hb2) hb3⟩
  · obtain ⟨k, rfl⟩ : ∃ k : Nat, a0 = (k : Int) + 1 := ⟨(a0 - 1).toNat, by omega⟩
    have hk9 : k < 9 := by omega
    have c1 : (1 : Int) ≤ (k : Int) + 1 := by omega
    have c9 : (k : Int) + 1 ≤ 9 := by omega
    clear hk
    by_cases hr : a1 < -7 ∨ 7 < a1
    · have H := Lib.hid (fun w => csig_range ((k : Int) + 1) a1 w c1 c9 hr)
      rcases hr with hr | hr
      · go_enter Try.func7, Try.ntmps7
        go_wp2_with (first
          | (go_at_call 12; refine (known_any _).mono ?_; rintro e w1 ⟨rfl, hb1⟩; have hz1 := hb1.size)
          | (go_at_call 21; refine (H.out _).mono ?_; rintro e w2 ⟨rfl, hb2⟩; have hz2 := hb2.size)
          | (go_at_call 14; refine (valid_ok _ _ c1 c9).mono ?_; rintro e w3 ⟨rfl, hb3⟩))
        go_returns
        exact ⟨rfl, next0 (next0 hb1 hb2) hb3⟩
      · have hr' : -7 ≤ a1 := by omega
        go_enter Try.func7, Try.ntmps7
        go_wp2_with (first
          | (go_at_call 12; refine (known_any _).mono ?_; rintro e w1 ⟨rfl, hb1⟩; have hz1 := hb1.size)
          | (go_at_call 21; refine (H.out _).mono ?_; rintro e w2 ⟨rfl, hb2⟩; have hz2 := hb2.size)
          | (go_at_call 14; refine (valid_ok _ _ c1 c9).mono ?_; rintro e w3 ⟨rfl, hb3⟩))
        go_returns
        exact ⟨rfl, next0 (next0 hb1 hb2) hb3⟩
    · by_cases hs : 0 ≤ a1
      · obtain ⟨n, rfl⟩ : ∃ n : Nat, a1 = (n : Int) := ⟨a1.toNat, by omega⟩
        have hn : n ≤ 7 := by omega
        clear hr hs
        have hlen := map_take_len sharpL (place (kMid ((k : Int) + 1)) (kSharps ((k : Int) + 1))) n hn
        have Hs := Lib.hid (fun w => sig_sharp ((k : Int) + 1) n w c1 c9 hn)
        have Hr := Lib.hid (fun w => rsig_sharp k n w hk9 hn)
        generalize (sharpL.take n).map (place (kMid ((k : Int) + 1)) (kSharps ((k : Int) + 1))) = L at hlen Hs Hr
        go_enter Try.func7, Try.ntmps7
        go_wp2_with (first
          | (go_at_call 12; refine (known_any _).mono ?_; rintro e w1 ⟨rfl, hb1⟩; have hz1 := hb1.size)
          | (go_at_call 21; refine (Hs.out _).mono ?_; rintro e w2 ⟨v, W, rfl, hbW, hacc⟩; have hb2 := next0 hbW hacc.below; obtain ⟨A, c, rfl, hn1, hm1, hrd⟩ := acc_form hacc)
          | (go_at_call 14; refine (valid_ok _ _ c1 c9).mono ?_; rintro e w3 ⟨rfl, hb3⟩; have hrd3 := rd_below hrd hb3)
          | (go_at_call 22; refine (Hr.out _).mono ?_; rintro e w4 ⟨v', rfl, hgot⟩; have hb4 := got_below hgot; obtain ⟨B, d, rfl, hn', hm', hrd'⟩ := got_form hgot; have hrd4 := rd_below hrd3 hb4)
          | (go_at_call 18; refine (numbers_same _ _ _ _ _ _ hrd4 hrd' hlen hn1 hn').mono ?_; rintro e w5 ⟨rfl, hb5⟩))
        go_returns
        exact ⟨rfl, next0 (next0 (next0 (next0 hb1 hb2) hb3) hb4) hb5⟩
      · obtain ⟨n, rfl⟩ : ∃ n : Nat, a1 = -(n : Int) := ⟨(-a1).toNat, by omega⟩
        have hn : n ≤ 7 := by omega
        have hn0 : 0 < n := by omega
        clear hr hs
        have hlen := map_take_len flatL (place (kMid ((k : Int) + 1)) (kFlats ((k : Int) + 1))) n hn
        have Hs := Lib.hid (fun w => sig_flat ((k : Int) + 1) n w c1 c9 hn0 hn)
        have Hr := Lib.hid (fun w => rsig_flat k n w hk9 hn0 hn)
        generalize (flatL.take n).map (place (kMid ((k : Int) + 1)) (kFlats ((k : Int) + 1))) = L at hlen Hs Hr
        go_enter Try.func7, Try.ntmps7
        go_wp2_with (first
          | (go_at_call 12; refine (known_any _).mono ?_; rintro e w1 ⟨rfl, hb1⟩; have hz1 := hb1.size)
          | (go_at_call 21; refine (Hs.out _).mono ?_; rintro e w2 ⟨v, W, rfl, hbW, hacc⟩; have hb2 := next0 hbW hacc.below; obtain ⟨A, c, rfl, hn1, hm1, hrd⟩ := acc_form hacc)
          | (go_at_call 14; refine (valid_ok _ _ c1 c9).mono ?_; rintro e w3 ⟨rfl, hb3⟩; have hrd3 := rd_below hrd hb3)
          | (go_at_call 22; refine (Hr.out _).mono ?_; rintro e w4 ⟨v', rfl, hgot⟩; have hb4 := got_below hgot; obtain ⟨B, d, rfl, hn', hm', hrd'⟩ := got_form hgot; have hrd4 := rd_below hrd3 hb4)
          | (go_at_call 18; refine (numbers_same _ _ _ _ _ _ hrd4 hrd' hlen hn1 hn').mono ?_; rintro e w5 ⟨rfl, hb5⟩))
        go_returns
        exact ⟨rfl, next0 (next0 (next0 (next0 hb1 hb2) hb3) hb4) hb5⟩
end Go.Proofs.Ytdleefphgjnhjaa
namespace Go.Proofs.Ytdleefphgjnhjaa.clefSignaturesDone
open Go.ChangeShapes Go.WideShapes Go.ChangeAt Go.RowKit
open Go.ChangeMaps (open_string shut_string)
set_option linter.unusedVariables false

theorem own : ownKnob Try.prog.godebug = none := by kernel_rfl
theorem laidOut : laidOutB Try.prog = true := by kernel_rfl

set_option maxRecDepth 100000 in
theorem lifted (os : Os) (started : os.Started) (H : Type) (enc : TypeId × Value → H) :
    ReturnsInHanded {} Try.checked os 7 .any (Rows.clefSignaturesSpec.pre6 enc Try.prog Try.f7 Rows.clefSignaturesRow.domain false) (Rows.clefSignaturesSpec.post enc Try.prog Try.f7 false true false false) := by
  refine returnsInHanded_of_change (C := Try.checked) own started (by kernel_rfl) Try.func7
    (ChangeSpec.witness6 (enc := enc) (C := Try.checked) false ⟨#[], #[.int .i64 0, .int .i64 0], []⟩ 8 (by kernel_rfl) (by kernel_rfl) (by kernel_rfl) (by kernel_rfl)) ?_
  intro W base args ds gs before hval0 hW hcnd _
  have hval : ∀ (j : Nat) t v, Try.f7.params[j]? = some t → args[j]? = some v → Value.okWide Try.prog W .any base t v := hval0
  have hW' := hW
  obtain ⟨p, q, hA0, hV, rfl, hfz, hnd⟩ := hW
  have hA : DataW.TrodAll enc Try.prog W 0 (fun _ => true) true Try.f7.params.toList args.toList ds p := hA0
  rw [Try.params7] at hA hval
  obtain ⟨v0, vs0, d0, ds0, p0, q0, hargs, rfl, rfl, h0, r0⟩ := trodAll_cons hA
  obtain ⟨v1, vs1, d1, ds1, p1, q1, rfl, rfl, rfl, h1, r1⟩ := trodAll_cons r0
  obtain ⟨rfl, rfl, rfl⟩ := trodAll_nil r1
  obtain rfl : args = #[v0, v1] := by cases args; simp_all
  obtain ⟨rfl, rfl⟩ := trodVars_none hV
  have k0 := h0
  have lt0 : ∀ x ∈ p0, x.block < W.heap.size := by obtain ⟨m, hm⟩ := k0; exact DataW.trod_lt m _ _ _ hm
  obtain ⟨a0, rfl, e0, f0, w0⟩ := open_int Try.underlying3 (hval 0 3 v0 rfl rfl) h0
  have k1 := h1
  have lt1 : ∀ x ∈ p1, x.block < W.heap.size := by obtain ⟨m, hm⟩ := k1; exact DataW.trod_lt m _ _ _ hm
  obtain ⟨a1, rfl, e1, f1, w1⟩ := open_int Try.underlying3 (hval 1 3 v1 rfl rfl) h1
  clear hA0 hval0
  refine (walkClefSignatures a0 w0 a1 w1 W).mono fun e W' ⟨he, bel⟩ => ?_
  subst he
  exact ⟨_, rfl, _, _, _, [], _, [], hW', trodAll_mk1 (shut_bool Try.underlying4 _), (trodAll_cons_mk (Below.trod laidOut (by kernel_rfl) (of_decide_eq_true (by kernel_rfl)) k0 bel lt0) (trodAll_cons_mk (Below.trod laidOut (by kernel_rfl) (of_decide_eq_true (by kernel_rfl)) k1 bel lt1) trodAll_mk0)), rfl, bel.frame _, fun h => by cases h⟩

theorem over : Rows.clefSignaturesRow.holds Try.pinned (OpenSpec.ofChange Rows.clefSignaturesSpec) :=
  OpenClaim.holds_of_wide 7 Try.f7 rfl rfl rfl rfl rfl rfl rfl ⟨rfl, rfl, rfl, rfl, rfl⟩ rfl rfl rfl rfl rfl (by kernel_rfl) Try.func7 (by kernel_rfl)
    (of_decide_eq_true (by kernel_rfl)) (by unfold Func.isWrapper; first | (rw [if_pos (by decide +kernel)]; kernel_rfl) | (rw [if_neg (by decide +kernel)]; exact ⟨rfl, rfl⟩))
    (fun os started H enc _ => lifted os started H enc)

/-- The statement. -/
theorem proved : Rows.ClefSignaturesSaid := over
#print axioms proved
end Go.Proofs.Ytdleefphgjnhjaa.clefSignaturesDone
