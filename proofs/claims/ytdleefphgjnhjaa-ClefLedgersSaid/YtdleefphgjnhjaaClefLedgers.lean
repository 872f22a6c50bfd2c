/- hemiola/hemiolalaw08.ClefLedgers: for every input the law returns true, and each argument reads behind the call as it read before. No condition. -/
import Derived.Test.YtdleefphgjnhjaaKnown
import Derived.Test.YtdleefphgjnhjaaRows
import Derived.ProofKit
import Derived.OpenShut
import Derived.ShutString
import Derived.ChangeOld
namespace Go.Proofs.Ytdleefphgjnhjaa
open Go.RowKit
set_option linter.unusedVariables false
theorem ledger_len (p : Int) : (ledger p).length ≤ 65536 := by
  unfold ledger
  split
  · simp
  · rw [List.length_append, ups_len, downs_len]; omega

theorem walkClefLedgers (a0 : Int) (w0 : (Lit.int .i64 a0).wf = true) (w : World) :
    Calls Try.prog 5 #[.int .i64 a0] w fun e w' => e = .returned (.bool true) ∧ Below w.heap.size w w' := by
  obtain ⟨p0, p1⟩ := bounds_i64 w0
  have hl := ledger_len a0
  clear w0
  go_enter Try.func5, Try.ntmps5
  go_wp2_with (first
    | (go_at_call 12; refine (known_any _).mono ?_; rintro e w1 ⟨rfl, hb1⟩; have hz1 := hb1.size)
    | (go_at_call 19; refine (ledger_any _ _ p0 p1).mono ?_; rintro e w2 ⟨v, rfl, hacc⟩; have hb2 := hacc.below; obtain ⟨A, c, rfl, hn, hm, hrd⟩ := acc_form hacc)
    | (go_at_call 20; refine (ref_ledger_any _ _ p0 p1).mono ?_; rintro e w3 ⟨v', rfl, hacc'⟩; have hb3 := hacc'.below; obtain ⟨B, d, rfl, hn', hm', hrd'⟩ := acc_form hacc'; have hrd2 := rd_below hrd hb3)
    | (go_at_call 18; refine (numbers_same _ _ _ _ _ _ hrd2 hrd' hl hn hn').mono ?_; rintro e w4 ⟨rfl, hb4⟩))
  go_returns
  exact ⟨rfl, next0 (next0 (next0 hb1 hb2) hb3) hb4⟩
end Go.Proofs.Ytdleefphgjnhjaa
namespace Go.Proofs.Ytdleefphgjnhjaa.clefLedgersDone
open Go.ChangeShapes Go.WideShapes Go.ChangeAt Go.RowKit
open Go.ChangeMaps (open_string shut_string)
set_option linter.unusedVariables false

theorem own : ownKnob Try.prog.godebug = none := by kernel_rfl
theorem laidOut : laidOutB Try.prog = true := by kernel_rfl

set_option maxRecDepth 100000 in
theorem lifted (os : Os) (started : os.Started) (H : Type) (enc : TypeId × Value → H) :
    ReturnsInHanded {} Try.checked os 5 .any (Rows.clefLedgersSpec.pre6 enc Try.prog Try.f5 Rows.clefLedgersRow.domain false) (Rows.clefLedgersSpec.post enc Try.prog Try.f5 false true false false) := by
  refine returnsInHanded_of_change (C := Try.checked) own started (by kernel_rfl) Try.func5
    (ChangeSpec.witness6 (enc := enc) (C := Try.checked) false ⟨#[], #[.int .i64 0], []⟩ 8 (by kernel_rfl) (by kernel_rfl) (by kernel_rfl) (by kernel_rfl)) ?_
  intro W base args ds gs before hval0 hW hcnd _
  have hval : ∀ (j : Nat) t v, Try.f5.params[j]? = some t → args[j]? = some v → Value.okWide Try.prog W .any base t v := hval0
  have hW' := hW
  obtain ⟨p, q, hA0, hV, rfl, hfz, hnd⟩ := hW
  have hA : DataW.TrodAll enc Try.prog W 0 (fun _ => true) true Try.f5.params.toList args.toList ds p := hA0
  rw [Try.params5] at hA hval
  obtain ⟨v0, vs0, d0, ds0, p0, q0, hargs, rfl, rfl, h0, r0⟩ := trodAll_cons hA
  obtain ⟨rfl, rfl, rfl⟩ := trodAll_nil r0
  obtain rfl : args = #[v0] := by cases args; simp_all
  obtain ⟨rfl, rfl⟩ := trodVars_none hV
  have k0 := h0
  have lt0 : ∀ x ∈ p0, x.block < W.heap.size := by obtain ⟨m, hm⟩ := k0; exact DataW.trod_lt m _ _ _ hm
  obtain ⟨a0, rfl, e0, f0, w0⟩ := open_int Try.underlying3 (hval 0 3 v0 rfl rfl) h0
  clear hA0 hval0
  refine (walkClefLedgers a0 w0 W).mono fun e W' ⟨he, bel⟩ => ?_
  subst he
  exact ⟨_, rfl, _, _, _, [], _, [], hW', trodAll_mk1 (shut_bool Try.underlying4 _), (trodAll_cons_mk (Below.trod laidOut (by kernel_rfl) (of_decide_eq_true (by kernel_rfl)) k0 bel lt0) trodAll_mk0), rfl, bel.frame _, fun h => by cases h⟩

theorem over : Rows.clefLedgersRow.holds Try.pinned (OpenSpec.ofChange Rows.clefLedgersSpec) :=
  OpenClaim.holds_of_wide 5 Try.f5 rfl rfl rfl rfl rfl rfl rfl ⟨rfl, rfl, rfl, rfl, rfl⟩ rfl rfl rfl rfl rfl (by kernel_rfl) Try.func5 (by kernel_rfl)
    (of_decide_eq_true (by kernel_rfl)) (by unfold Func.isWrapper; first | (rw [if_pos (by decide +kernel)]; kernel_rfl) | (rw [if_neg (by decide +kernel)]; exact ⟨rfl, rfl⟩))
    (fun os started H enc _ => lifted os started H enc)

/-- The statement. -/
theorem proved : Rows.ClefLedgersSaid := over
#print axioms proved
end Go.Proofs.Ytdleefphgjnhjaa.clefLedgersDone
