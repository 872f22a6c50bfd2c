/- hemiola/hemiolalaw08.ClefInverts: for every input the law returns true, and each argument reads behind the call as it read before. No condition. -/
import Derived.Test.YtdleefphgjnhjaaKnown
import Derived.Test.YtdleefphgjnhjaaRefat
import Derived.Test.YtdleefphgjnhjaaRows
import Derived.ProofKit
import Derived.OpenShut
import Derived.ShutString
import Derived.ChangeOld
namespace Go.Proofs.Ytdleefphgjnhjaa
open Go.RowKit
set_option linter.unusedVariables false
theorem wf_bd {a : Int} (h : (Lit.int .i64 a).wf = true) : -9223372036854775808 ≤ a ∧ a ≤ 9223372036854775807 := bounds_i64 h

theorem walkClefInverts (a0 : Int) (w0 : (Lit.int .i64 a0).wf = true) (a1 : Int) (w1 : (Lit.int .i64 a1).wf = true) (w : World) :
    Calls Try.prog 3 #[.int .i64 a0, .int .i64 a1] w fun e w' => e = .returned (.bool true) ∧ Below w.heap.size w w' := by
  obtain ⟨p0, p1⟩ := wf_bd w1
  clear w0 w1
  by_cases hk : a0 < 1 ∨ 9 < a0
  · go_enter Try.func3, Try.ntmps3
    go_wp2_with (first
      | (go_at_call 12; refine (known_any _).mono ?_; rintro e w1 ⟨rfl, hb1⟩; have hz1 := hb1.size)
      | (go_at_call 13; refine (at_kind _ _ _ hk).mono ?_; rintro e w2 ⟨rfl, hb2⟩; have hz2 := hb2.size)
      | (go_at_call 14; refine (valid_bad _ _ hk).mono ?_; rintro e w3 ⟨rfl, hb3⟩; have hz3 := hb3.size; simp only [World.size_alloc] at hz3; obtain ⟨hc3, hf3⟩ := bcell hb3))
    go_returns
    exact ⟨rfl, next1 (next0 hb1 hb2) hb3⟩
  · obtain ⟨k, rfl⟩ : ∃ k : Nat, a0 = (k : Int) + 1 := ⟨(a0 - 1).toNat, by omega⟩
    have hk9 : k < 9 := by omega
    have c1 : (1 : Int) ≤ (k : Int) + 1 := by omega
    have c9 : (k : Int) + 1 ≤ 9 := by omega
    clear hk
    obtain ⟨k0, k1⟩ := kMid_bd c1 c9
    by_cases hd : dOk (kMid ((k : Int) + 1) + a1)
    · obtain ⟨_, _, _, _, d0, d1⟩ := hd.1
      have r0 : -200 ≤ a1 := by omega
      have r1 : a1 ≤ 200 := by omega
      have hpos : ∀ w : World, Calls Try.prog 16 #[.int .i64 ((k : Int) + 1), .agg #[.int .i64 ((kMid ((k : Int) + 1) + a1) % 7), .int .i64 0, .int .i64 ((kMid ((k : Int) + 1) + a1) / 7)]] w fun e w' => e = .returned (.tuple #[.int .i64 a1, .int .i64 0]) ∧ Below w.heap.size w w' := by
        intro w
        have h := position_ok ((k : Int) + 1) _ _ _ w c1 c9 hd
        rw [show 7 * ((kMid ((k : Int) + 1) + a1) / 7) + (kMid ((k : Int) + 1) + a1) % 7 - kMid ((k : Int) + 1) = a1 from by omega] at h
        exact h
      have Hp := Lib.hid hpos
      have Hat := Lib.hid (fun w => at_ok ((k : Int) + 1) a1 w c1 c9 r0 r1 hd)
      have Hrat := Lib.hid (fun w => rat_ok k a1 w hk9 hd)
      clear hpos hd d0 d1
      generalize (kMid ((k : Int) + 1) + a1) % 7 = s at Hp Hat Hrat
      generalize (kMid ((k : Int) + 1) + a1) / 7 = o at Hp Hat Hrat
      go_enter Try.func3, Try.ntmps3
      go_wp2_with (first
        | (go_at_call 12; refine (known_any _).mono ?_; rintro e w1 ⟨rfl, hb1⟩; have hz1 := hb1.size)
        | (go_at_call 13; refine (Hat.out _).mono ?_; rintro e w2 ⟨rfl, hb2⟩; have hz2 := hb2.size)
        | (go_at_call 14; refine (valid_ok _ _ c1 c9).mono ?_; rintro e w3 ⟨rfl, hb3⟩; have hz3 := hb3.size; simp only [World.size_alloc] at hz3; obtain ⟨hc3, hf3⟩ := bcell hb3)
        | (go_at_call 15; refine (Hrat.out _).mono ?_; rintro e w4 ⟨rfl, hb4⟩; have hz4 := hb4.size; have hy4 : w2.heap.size < w4.heap.size := (by omega); obtain ⟨hc4, hf4⟩ := bcell (next0 hb3 hb4))
        | (go_at_call 16; refine (Hp.out _).mono ?_; rintro e w5 ⟨rfl, hb5⟩; have hz5 := hb5.size; obtain ⟨hc5, hf5⟩ := bcell hb5; obtain ⟨hc6, hf6⟩ := bcell (next1 (next0 hb3 hb4) hb5)))
      go_returns
      exact ⟨rfl, next1 (next0 (next1 (next0 hb1 hb2) hb3) hb4) hb5⟩
    · have Hat : Hid (∀ w : World, Calls Try.prog 13 #[.int .i64 ((k : Int) + 1), .int .i64 a1] w fun e w' => e = .returned (.tuple #[.agg #[.int .i64 0, .int .i64 0, .int .i64 0], .int .i64 2]) ∧ Below w.heap.size w w') := by
        intro w
        by_cases hr : a1 < -200 ∨ 200 < a1
        · exact at_range _ _ _ c1 c9 hr
        · exact at_none _ _ _ c1 c9 (by omega) (by omega) hd
      have Hrat := Lib.hid (fun w => rat_bad k a1 w hk9 hd)
      clear hd
      go_enter Try.func3, Try.ntmps3
      go_wp2_with (first
        | (go_at_call 12; refine (known_any _).mono ?_; rintro e w1 ⟨rfl, hb1⟩; have hz1 := hb1.size)
        | (go_at_call 13; refine (Hat.out _).mono ?_; rintro e w2 ⟨rfl, hb2⟩; have hz2 := hb2.size)
        | (go_at_call 14; refine (valid_ok _ _ c1 c9).mono ?_; rintro e w3 ⟨rfl, hb3⟩; have hz3 := hb3.size; simp only [World.size_alloc] at hz3; obtain ⟨hc3, hf3⟩ := bcell hb3)
        | (go_at_call 15; refine (Hrat.out _).mono ?_; rintro e w4 ⟨rfl, hb4⟩; have hz4 := hb4.size; have hy4 : w2.heap.size < w4.heap.size := (by omega); obtain ⟨hc4, hf4⟩ := bcell (next0 hb3 hb4)))
      go_returns
      exact ⟨rfl, by have := next0 (next1 (next0 hb1 hb2) hb3) hb4; go_grown⟩
end Go.Proofs.Ytdleefphgjnhjaa
namespace Go.Proofs.Ytdleefphgjnhjaa.clefInvertsDone
open Go.ChangeShapes Go.WideShapes Go.ChangeAt Go.RowKit
open Go.ChangeMaps (open_string shut_string)
set_option linter.unusedVariables false

theorem own : ownKnob Try.prog.godebug = none := by kernel_rfl
theorem laidOut : laidOutB Try.prog = true := by kernel_rfl

set_option maxRecDepth 100000 in
theorem lifted (os : Os) (started : os.Started) (H : Type) (enc : TypeId × Value → H) :
    ReturnsInHanded {} Try.checked os 3 .any (Rows.clefInvertsSpec.pre6 enc Try.prog Try.f3 Rows.clefInvertsRow.domain false) (Rows.clefInvertsSpec.post enc Try.prog Try.f3 false true false false) := by
  refine returnsInHanded_of_change (C := Try.checked) own started (by kernel_rfl) Try.func3
    (ChangeSpec.witness6 (enc := enc) (C := Try.checked) false ⟨#[], #[.int .i64 0, .int .i64 0], []⟩ 8 (by kernel_rfl) (by kernel_rfl) (by kernel_rfl) (by kernel_rfl)) ?_
  intro W base args ds gs before hval0 hW hcnd _
  have hval : ∀ (j : Nat) t v, Try.f3.params[j]? = some t → args[j]? = some v → Value.okWide Try.prog W .any base t v := hval0
  have hW' := hW
  obtain ⟨p, q, hA0, hV, rfl, hfz, hnd⟩ := hW
  have hA : DataW.TrodAll enc Try.prog W 0 (fun _ => true) true Try.f3.params.toList args.toList ds p := hA0
  rw [Try.params3] at hA hval
  obtain ⟨v0, vs0, d0, ds0, p0, q0, hargs, rfl, rfl, h0, r0⟩ := trodAll_cons hA
  obtain ⟨v1, vs1, d1, ds1, p1, q1, rfl, rfl, rfl, h1, r1⟩ := trodAll_cons r0
  obtain ⟨rfl, rfl, rfl⟩ := trodAll_nil r1
  obtain rfl : args = #[v0, v1] := by cases args; simp_all
  obtain ⟨rfl, rfl⟩ := trodVars_none hV
  have k0 := h0
  have lt0 : ∀ x ∈ p0, x.block < W.heap.size := by obtain ⟨m, hm⟩ := k0; exact DataW.trod_lt m _ _ _ hm
  obtain ⟨a0, rfl, e0, f0, w0⟩ := open_int Try.underlying3 (hval 0 3 v0 rfl rfl) h0
  have k1 := h1
  have lt1 : ∀ x ∈ p1, x.block < W.heap.size := by obtain ⟨m, hm⟩ := k1; exact DataW.trod_lt m _ _ _ hm
  obtain ⟨a1, rfl, e1, f1, w1⟩ := open_int Try.underlying3 (hval 1 3 v1 rfl rfl) h1
  clear hA0 hval0
  refine (walkClefInverts a0 w0 a1 w1 W).mono fun e W' ⟨he, bel⟩ => ?_
  subst he
  exact ⟨_, rfl, _, _, _, [], _, [], hW', trodAll_mk1 (shut_bool Try.underlying4 _), (trodAll_cons_mk (Below.trod laidOut (by kernel_rfl) (of_decide_eq_true (by kernel_rfl)) k0 bel lt0) (trodAll_cons_mk (Below.trod laidOut (by kernel_rfl) (of_decide_eq_true (by kernel_rfl)) k1 bel lt1) trodAll_mk0)), rfl, bel.frame _, fun h => by cases h⟩

theorem over : Rows.clefInvertsRow.holds Try.pinned (OpenSpec.ofChange Rows.clefInvertsSpec) :=
  OpenClaim.holds_of_wide 3 Try.f3 rfl rfl rfl rfl rfl rfl rfl ⟨rfl, rfl, rfl, rfl, rfl⟩ rfl rfl rfl rfl rfl (by kernel_rfl) Try.func3 (by kernel_rfl)
    (of_decide_eq_true (by kernel_rfl)) (by unfold Func.isWrapper; first | (rw [if_pos (by decide +kernel)]; kernel_rfl) | (rw [if_neg (by decide +kernel)]; exact ⟨rfl, rfl⟩))
    (fun os started H enc _ => lifted os started H enc)

/-- The statement. -/
theorem proved : Rows.ClefInvertsSaid := over
#print axioms proved
end Go.Proofs.Ytdleefphgjnhjaa.clefInvertsDone
