/- hemiola/hemiolalaw08.ClefPositions: for every input the law returns true, and each argument reads behind the call as it read before. No condition. -/
import Derived.Test.YtdleefphgjnhjaaKnown
import Derived.Test.YtdleefphgjnhjaaRefc
import Derived.Test.YtdleefphgjnhjaaOpen
import Derived.Test.YtdleefphgjnhjaaRows
import Derived.ProofKit
import Derived.OpenShut
import Derived.ShutString
import Derived.ChangeOld
namespace Go.Proofs.Ytdleefphgjnhjaa
open Go.RowKit
set_option linter.unusedVariables false
theorem kind_ok (c : Int) (w : World) (h1 : 1 ≤ c) (h9 : c ≤ 9) : Calls Try.prog 24 #[.int .i64 c] w fun e w' => e = .returned (.int .i64 0) ∧ Below w.heap.size w w' := by
  go_enter Try.func24, Try.ntmps24
  go_wp2_with (go_at_call 14; refine (valid_ok _ _ h1 h9).mono ?_; rintro e w1 ⟨rfl, hb1⟩)
  go_returns
  exact ⟨rfl, hb1⟩
theorem kind_bad (c : Int) (w : World) (h : c < 1 ∨ 9 < c) : Calls Try.prog 24 #[.int .i64 c] w fun e w' => e = .returned (.int .i64 11) ∧ Below w.heap.size w w' := by
  go_enter Try.func24, Try.ntmps24
  go_wp2_with (go_at_call 14; refine (valid_bad _ _ h).mono ?_; rintro e w1 ⟨rfl, hb1⟩)
  go_returns
  exact ⟨rfl, hb1⟩

theorem walkClefPositions (c : Int) (w0 : (Lit.int .i64 c).wf = true) (s al o : Int) (wa : (Lit.int .i64 s).wf = true) (wb : (Lit.int .i64 al).wf = true) (wc : (Lit.int .i64 o).wf = true) (w : World) :
    Calls Try.prog 9 #[.int .i64 c, .agg #[.int .i64 s, .int .i64 al, .int .i64 o]] w fun e w' => e = .returned (.bool true) ∧ Below w.heap.size w w' := by
  clear w0 wa wb wc
  by_cases hk : c < 1 ∨ 9 < c
  · go_enter Try.func9, Try.ntmps9
    go_wp2_with (first
      | (go_at_call 12; refine (known_any _).mono ?_; rintro e w1 ⟨rfl, hb1⟩; have hz1 := hb1.size; obtain ⟨hc1, hf1⟩ := bcell hb1)
      | (go_at_call 16; refine (position_kind _ _ _ _ _ hk).mono ?_; rintro e w2 ⟨rfl, hb2⟩; have hz2 := hb2.size; obtain ⟨hc2, hf2⟩ := bcell (next0 hb1 hb2))
      | (go_at_call 24; refine (kind_bad _ _ hk).mono ?_; rintro e w3 ⟨rfl, hb3⟩)
      | (go_at_call 25; refine (ccheck_bad _ _ hk).mono ?_; rintro e w4 ⟨rfl, hb4⟩))
    go_returns
    exact ⟨rfl, base1 (next0 (next0 (next0 hb1 hb2) hb3) hb4)⟩
  · obtain ⟨k, rfl⟩ : ∃ k : Nat, c = (k : Int) + 1 := ⟨(c - 1).toNat, by omega⟩
    have hk9 : k < 9 := by omega
    have c1 : (1 : Int) ≤ (k : Int) + 1 := by omega
    have c9 : (k : Int) + 1 ≤ 9 := by omega
    clear hk
    by_cases hp : okP s al o
    · obtain ⟨s0, s6, _, _, o0, o9⟩ := hp.1
      have Hp := Lib.hid hp
      clear hp
      go_enter Try.func9, Try.ntmps9
      go_wp2_with (first
        | (go_at_call 12; refine (known_any _).mono ?_; rintro e w1 ⟨rfl, hb1⟩; have hz1 := hb1.size; obtain ⟨hc1, hf1⟩ := bcell hb1)
        | (go_at_call 16; refine (position_ok _ _ _ _ _ c1 c9 Hp.out).mono ?_; rintro e w2 ⟨rfl, hb2⟩; have hz2 := hb2.size; have hb12 := next0 hb1 hb2)
        | (go_at_call 24; refine (kind_ok _ _ c1 c9).mono ?_; rintro e w3 ⟨rfl, hb3⟩; have hb13 := next0 hb12 hb3)
        | (go_at_call 25; refine (ccheck_ok _ _ c1 c9).mono ?_; rintro e w4 ⟨rfl, hb4⟩; have hb14 := next0 hb13 hb4; obtain ⟨hc4, hf4⟩ := bcell hb14)
        | (go_at_call 17; refine (exists_ok _ _ _ _ Hp.out).mono ?_; rintro e w5 ⟨rfl, hb5⟩; have hb15 := next0 hb14 hb5; obtain ⟨hc5, hf5⟩ := bcell hb15)
        | (go_at_call 26; refine (rposition_any k _ _ _ _ hk9 s0 s6 o0 o9).mono ?_; rintro e w6 ⟨rfl, hb6⟩; have hb16 := next0 hb15 hb6))
      go_returns
      exact ⟨rfl, base1 hb16⟩
    · have Hp := Lib.hid hp
      clear hp
      go_enter Try.func9, Try.ntmps9
      go_wp2_with (first
        | (go_at_call 12; refine (known_any _).mono ?_; rintro e w1 ⟨rfl, hb1⟩; have hz1 := hb1.size; obtain ⟨hc1, hf1⟩ := bcell hb1)
        | (go_at_call 16; refine (position_bad _ _ _ _ _ c1 c9 Hp.out).mono ?_; rintro e w2 ⟨rfl, hb2⟩; have hz2 := hb2.size; have hb12 := next0 hb1 hb2)
        | (go_at_call 24; refine (kind_ok _ _ c1 c9).mono ?_; rintro e w3 ⟨rfl, hb3⟩; have hb13 := next0 hb12 hb3)
        | (go_at_call 25; refine (ccheck_ok _ _ c1 c9).mono ?_; rintro e w4 ⟨rfl, hb4⟩; have hb14 := next0 hb13 hb4; obtain ⟨hc4, hf4⟩ := bcell hb14)
        | (go_at_call 17; refine (exists_bad _ _ _ _ Hp.out).mono ?_; rintro e w5 ⟨rfl, hb5⟩; have hb15 := next0 hb14 hb5; obtain ⟨hc5, hf5⟩ := bcell hb15))
      go_returns
      exact ⟨rfl, base1 hb15⟩
end Go.Proofs.Ytdleefphgjnhjaa
namespace Go.Proofs.Ytdleefphgjnhjaa.clefPositionsDone
open Go.ChangeShapes Go.WideShapes Go.ChangeAt Go.RowKit
open Go.ChangeMaps (open_string shut_string)
set_option linter.unusedVariables false

theorem own : ownKnob Try.prog.godebug = none := by kernel_rfl
theorem laidOut : laidOutB Try.prog = true := by kernel_rfl

set_option maxRecDepth 100000 in
theorem lifted (os : Os) (started : os.Started) (H : Type) (enc : TypeId × Value → H) :
    ReturnsInHanded {} Try.checked os 9 .any (Rows.clefPositionsSpec.pre6 enc Try.prog Try.f9 Rows.clefPositionsRow.domain false) (Rows.clefPositionsSpec.post enc Try.prog Try.f9 false true false false) := by
  refine returnsInHanded_of_change (C := Try.checked) own started (by kernel_rfl) Try.func9
    (ChangeSpec.witness6 (enc := enc) (C := Try.checked) false ⟨#[], #[.int .i64 0, .agg #[.int .i64 0, .int .i64 0, .int .i64 0]], []⟩ 8 (by kernel_rfl) (by kernel_rfl) (by kernel_rfl) (by kernel_rfl)) ?_
  intro W base args ds gs before hval0 hW hcnd _
  have hval : ∀ (j : Nat) t v, Try.f9.params[j]? = some t → args[j]? = some v → Value.okWide Try.prog W .any base t v := hval0
  have hW' := hW
  obtain ⟨p, q, hA0, hV, rfl, hfz, hnd⟩ := hW
  have hA : DataW.TrodAll enc Try.prog W 0 (fun _ => true) true Try.f9.params.toList args.toList ds p := hA0
  rw [Try.params9] at hA hval
  obtain ⟨v0, vs0, d0, ds0, p0, q0, hargs, rfl, rfl, h0, r0⟩ := trodAll_cons hA
  obtain ⟨v1, vs1, d1, ds1, p1, q1, rfl, rfl, rfl, h1, r1⟩ := trodAll_cons r0
  obtain ⟨rfl, rfl, rfl⟩ := trodAll_nil r1
  obtain rfl : args = #[v0, v1] := by cases args; simp_all
  obtain ⟨rfl, rfl⟩ := trodVars_none hV
  have k0 := h0
  have lt0 : ∀ x ∈ p0, x.block < W.heap.size := by obtain ⟨m, hm⟩ := k0; exact DataW.trod_lt m _ _ _ hm
  obtain ⟨a0, rfl, e0, f0, w0⟩ := open_int Try.underlying3 (hval 0 3 v0 rfl rfl) h0
  have k1 := h1
  have lt1 : ∀ x ∈ p1, x.block < W.heap.size := by obtain ⟨m, hm⟩ := k1; exact DataW.trod_lt m _ _ _ hm
  obtain ⟨a1, b1, c1, rfl, wa1, wb1, wc1⟩ := open_pitch (hval 1 24 v1 rfl rfl) h1
  clear hA0 hval0
  refine (walkClefPositions a0 w0 a1 b1 c1 wa1 wb1 wc1 W).mono fun e W' ⟨he, bel⟩ => ?_
  subst he
  exact ⟨_, rfl, _, _, _, [], _, [], hW', trodAll_mk1 (shut_bool Try.underlying4 _), (trodAll_cons_mk (Below.trod laidOut (by kernel_rfl) (of_decide_eq_true (by kernel_rfl)) k0 bel lt0) (trodAll_cons_mk (Below.trod laidOut (by kernel_rfl) (of_decide_eq_true (by kernel_rfl)) k1 bel lt1) trodAll_mk0)), rfl, bel.frame _, fun h => by cases h⟩

theorem over : Rows.clefPositionsRow.holds Try.pinned (OpenSpec.ofChange Rows.clefPositionsSpec) :=
  OpenClaim.holds_of_wide 9 Try.f9 rfl rfl rfl rfl rfl rfl rfl ⟨rfl, rfl, rfl, rfl, rfl⟩ rfl rfl rfl rfl rfl (by kernel_rfl) Try.func9 (by kernel_rfl)
    (of_decide_eq_true (by kernel_rfl)) (by unfold Func.isWrapper; first | (rw [if_pos (by decide +kernel)]; kernel_rfl) | (rw [if_neg (by decide +kernel)]; exact ⟨rfl, rfl⟩))
    (fun os started H enc _ => lifted os started H enc)

/-- The statement. -/
theorem proved : Rows.ClefPositionsSaid := over
#print axioms proved
end Go.Proofs.Ytdleefphgjnhjaa.clefPositionsDone
