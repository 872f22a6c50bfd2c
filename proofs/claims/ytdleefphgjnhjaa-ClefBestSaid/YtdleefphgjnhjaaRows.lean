/-
  No cell of these rows narrows 'for every input' (looked for: loops, veiled, ifaces, maps, wideKeys, modest, calm, conditions, laid).
  DERIVED. THE GIVEN ROWS OF THIS SEAT. 9 by the template 'for every input the law returns true; each argument reads behind the call as it read before'; 0 by the template 'total and deterministic' (their statements: YtdleefphgjnhjaaTotals.lean).
  GIVEN WITH THE SEED: the statements are not yours to turn. If you find one false, say at which input.
  Laid BY PROGRAM, IN A SANDBOX (cutbox-rows.mjs): the forced cells as the released guide's own fill.sh prints them over the translation 91f600fa6172a8c7… (all of the seat's roots in one cut). By AI agents, Wed Nov 11 2026. No macro, syntax, notation, axiom, sorry.
-/
import Derived.Test.YtdleefphgjnhjaaChecked
import GoSem.Claim
import GoSem.ClaimJoined
import GoSem.ClaimMapViews
import Derived.JoinedTies
import Derived.KernelRfl
namespace Go.Proofs.Ytdleefphgjnhjaa
/- THE CELL 'sum', in the pinned program and in every row, IS THE sha256 OF THE DUMP (.gsa) THAT YtdleefphgjnhjaaProg.lean LOADS. Nothing in Lean hashes anything: it is a label: what it is worth is what the hold of that sum in a sandbox is worth. -/
noncomputable def Try.pinned : Pinned := { name := "ytdleefphgjnhjaa", sum := "91f600fa6172a8c7606904e2a415aa3296549b6984a6d97520149750565967ea", checked := Try.checked }
namespace Rows
def none {H : Type} : Left H := { results := [], args := [] }

/-- 'hemiolalaw08.ClefInverts': WHATEVER THE INPUT: true; the input reads as it did. -/
def clefInvertsSpec : ChangeSpec := { name := "clefInverts", fn := fun _ => fun
  | [d1, d2] => { results := [.lit (.bool true)], args := [d1, d2] }
  | _ => none }
def clefInvertsRow : OpenClaim := { program := "ytdleefphgjnhjaa", sum := "91f600fa6172a8c7606904e2a415aa3296549b6984a6d97520149750565967ea", func := "hemiola/hemiolalaw08.ClefInverts", spec := "clefInverts", apart := false }
def ClefInvertsSaid : Prop := clefInvertsRow.holds Try.pinned (OpenSpec.ofChange clefInvertsSpec)

/-- ITS FALSE NEIGHBOUR: 'it returns false'. Refute it at one input. -/
def clefInvertsWrong : ChangeSpec := { name := "clefInverts", fn := fun _ => fun
  | [d1, d2] => { results := [.lit (.bool false)], args := [d1, d2] }
  | _ => none }
def ClefInvertsWrongFalsely : Prop := clefInvertsRow.holds Try.pinned (OpenSpec.ofChange clefInvertsWrong)

/-- 'hemiolalaw08.ClefSteps': WHATEVER THE INPUT: true; the input reads as it did. -/
def clefStepsSpec : ChangeSpec := { name := "clefSteps", fn := fun _ => fun
  | [d1, d2, d3] => { results := [.lit (.bool true)], args := [d1, d2, d3] }
  | _ => none }
def clefStepsRow : OpenClaim := { program := "ytdleefphgjnhjaa", sum := "91f600fa6172a8c7606904e2a415aa3296549b6984a6d97520149750565967ea", func := "hemiola/hemiolalaw08.ClefSteps", spec := "clefSteps", apart := false }
def ClefStepsSaid : Prop := clefStepsRow.holds Try.pinned (OpenSpec.ofChange clefStepsSpec)

/-- ITS FALSE NEIGHBOUR: 'it returns false'. Refute it at one input. -/
def clefStepsWrong : ChangeSpec := { name := "clefSteps", fn := fun _ => fun
  | [d1, d2, d3] => { results := [.lit (.bool false)], args := [d1, d2, d3] }
  | _ => none }
def ClefStepsWrongFalsely : Prop := clefStepsRow.holds Try.pinned (OpenSpec.ofChange clefStepsWrong)

/-- 'hemiolalaw08.ClefLedgers': WHATEVER THE INPUT: true; the input reads as it did. -/
def clefLedgersSpec : ChangeSpec := { name := "clefLedgers", fn := fun _ => fun
  | [d] => { results := [.lit (.bool true)], args := [d] }
  | _ => none }
def clefLedgersRow : OpenClaim := { program := "ytdleefphgjnhjaa", sum := "91f600fa6172a8c7606904e2a415aa3296549b6984a6d97520149750565967ea", func := "hemiola/hemiolalaw08.ClefLedgers", spec := "clefLedgers", apart := false }
def ClefLedgersSaid : Prop := clefLedgersRow.holds Try.pinned (OpenSpec.ofChange clefLedgersSpec)

/-- ITS FALSE NEIGHBOUR: 'it returns false'. Refute it at one input. -/
def clefLedgersWrong : ChangeSpec := { name := "clefLedgers", fn := fun _ => fun
  | [d] => { results := [.lit (.bool false)], args := [d] }
  | _ => none }
def ClefLedgersWrongFalsely : Prop := clefLedgersRow.holds Try.pinned (OpenSpec.ofChange clefLedgersWrong)

/-- 'hemiolalaw08.ClefMirrors': WHATEVER THE INPUT: true; the input reads as it did. -/
def clefMirrorsSpec : ChangeSpec := { name := "clefMirrors", fn := fun _ => fun
  | [d] => { results := [.lit (.bool true)], args := [d] }
  | _ => none }
def clefMirrorsRow : OpenClaim := { program := "ytdleefphgjnhjaa", sum := "91f600fa6172a8c7606904e2a415aa3296549b6984a6d97520149750565967ea", func := "hemiola/hemiolalaw08.ClefMirrors", spec := "clefMirrors", apart := false }
def ClefMirrorsSaid : Prop := clefMirrorsRow.holds Try.pinned (OpenSpec.ofChange clefMirrorsSpec)

/-- ITS FALSE NEIGHBOUR: 'it returns false'. Refute it at one input. -/
def clefMirrorsWrong : ChangeSpec := { name := "clefMirrors", fn := fun _ => fun
  | [d] => { results := [.lit (.bool false)], args := [d] }
  | _ => none }
def ClefMirrorsWrongFalsely : Prop := clefMirrorsRow.holds Try.pinned (OpenSpec.ofChange clefMirrorsWrong)

/-- 'hemiolalaw08.ClefSignatures': WHATEVER THE INPUT: true; the input reads as it did. -/
def clefSignaturesSpec : ChangeSpec := { name := "clefSignatures", fn := fun _ => fun
  | [d1, d2] => { results := [.lit (.bool true)], args := [d1, d2] }
  | _ => none }
def clefSignaturesRow : OpenClaim := { program := "ytdleefphgjnhjaa", sum := "91f600fa6172a8c7606904e2a415aa3296549b6984a6d97520149750565967ea", func := "hemiola/hemiolalaw08.ClefSignatures", spec := "clefSignatures", apart := false }
def ClefSignaturesSaid : Prop := clefSignaturesRow.holds Try.pinned (OpenSpec.ofChange clefSignaturesSpec)

/-- ITS FALSE NEIGHBOUR: 'it returns false'. Refute it at one input. -/
def clefSignaturesWrong : ChangeSpec := { name := "clefSignatures", fn := fun _ => fun
  | [d1, d2] => { results := [.lit (.bool false)], args := [d1, d2] }
  | _ => none }
def ClefSignaturesWrongFalsely : Prop := clefSignaturesRow.holds Try.pinned (OpenSpec.ofChange clefSignaturesWrong)

/-- 'hemiolalaw08.ClefShapes': WHATEVER THE INPUT: true; the input reads as it did. -/
def clefShapesSpec : ChangeSpec := { name := "clefShapes", fn := fun _ => fun
  | [d1, d2] => { results := [.lit (.bool true)], args := [d1, d2] }
  | _ => none }
def clefShapesRow : OpenClaim := { program := "ytdleefphgjnhjaa", sum := "91f600fa6172a8c7606904e2a415aa3296549b6984a6d97520149750565967ea", func := "hemiola/hemiolalaw08.ClefShapes", spec := "clefShapes", apart := false }
def ClefShapesSaid : Prop := clefShapesRow.holds Try.pinned (OpenSpec.ofChange clefShapesSpec)

/-- ITS FALSE NEIGHBOUR: 'it returns false'. Refute it at one input. -/
def clefShapesWrong : ChangeSpec := { name := "clefShapes", fn := fun _ => fun
  | [d1, d2] => { results := [.lit (.bool false)], args := [d1, d2] }
  | _ => none }
def ClefShapesWrongFalsely : Prop := clefShapesRow.holds Try.pinned (OpenSpec.ofChange clefShapesWrong)

/-- 'hemiolalaw08.ClefPositions': WHATEVER THE INPUT: true; the input reads as it did. -/
def clefPositionsSpec : ChangeSpec := { name := "clefPositions", fn := fun _ => fun
  | [d1, d2] => { results := [.lit (.bool true)], args := [d1, d2] }
  | _ => none }
def clefPositionsRow : OpenClaim := { program := "ytdleefphgjnhjaa", sum := "91f600fa6172a8c7606904e2a415aa3296549b6984a6d97520149750565967ea", func := "hemiola/hemiolalaw08.ClefPositions", spec := "clefPositions", apart := false }
def ClefPositionsSaid : Prop := clefPositionsRow.holds Try.pinned (OpenSpec.ofChange clefPositionsSpec)

/-- ITS FALSE NEIGHBOUR: 'it returns false'. Refute it at one input. -/
def clefPositionsWrong : ChangeSpec := { name := "clefPositions", fn := fun _ => fun
  | [d1, d2] => { results := [.lit (.bool false)], args := [d1, d2] }
  | _ => none }
def ClefPositionsWrongFalsely : Prop := clefPositionsRow.holds Try.pinned (OpenSpec.ofChange clefPositionsWrong)

/-- 'hemiolalaw08.ClefNames': WHATEVER THE INPUT: true; the input reads as it did. -/
def clefNamesSpec : ChangeSpec := { name := "clefNames", fn := fun _ => fun
  | [d1, d2] => { results := [.lit (.bool true)], args := [d1, d2] }
  | _ => none }
def clefNamesRow : OpenClaim := { program := "ytdleefphgjnhjaa", sum := "91f600fa6172a8c7606904e2a415aa3296549b6984a6d97520149750565967ea", func := "hemiola/hemiolalaw08.ClefNames", spec := "clefNames", apart := false }
def ClefNamesSaid : Prop := clefNamesRow.holds Try.pinned (OpenSpec.ofChange clefNamesSpec)

/-- ITS FALSE NEIGHBOUR: 'it returns false'. Refute it at one input. -/
def clefNamesWrong : ChangeSpec := { name := "clefNames", fn := fun _ => fun
  | [d1, d2] => { results := [.lit (.bool false)], args := [d1, d2] }
  | _ => none }
def ClefNamesWrongFalsely : Prop := clefNamesRow.holds Try.pinned (OpenSpec.ofChange clefNamesWrong)

/-- 'hemiolalaw08.ClefBest': WHATEVER THE INPUT: true; the input reads as it did. -/
def clefBestSpec : ChangeSpec := { name := "clefBest", fn := fun _ => fun
  | [d1, d2] => { results := [.lit (.bool true)], args := [d1, d2] }
  | _ => none }
def clefBestRow : OpenClaim := { program := "ytdleefphgjnhjaa", sum := "91f600fa6172a8c7606904e2a415aa3296549b6984a6d97520149750565967ea", func := "hemiola/hemiolalaw08.ClefBest", spec := "clefBest", apart := false }
def ClefBestSaid : Prop := clefBestRow.holds Try.pinned (OpenSpec.ofChange clefBestSpec)

/-- ITS FALSE NEIGHBOUR: 'it returns false'. Refute it at one input. -/
def clefBestWrong : ChangeSpec := { name := "clefBest", fn := fun _ => fun
  | [d1, d2] => { results := [.lit (.bool false)], args := [d1, d2] }
  | _ => none }
def ClefBestWrongFalsely : Prop := clefBestRow.holds Try.pinned (OpenSpec.ofChange clefBestWrong)

/- THE SECOND FORM. 'bulk': how many values and letters a reading holds, each counted each time it is reached (what is shared counts as often as it is met; a slice's spare places count too). A statement '..UptoSaid' is the law's where the arguments, and the package variables that the reading takes, are together of bulk at most 1048576: NARROWER than '..Said'. Prove '..Said' where nothing that the law and all that it calls make is longer than what came in: it says more and counts as full. Else prove '..UptoSaid'. A law counts once. -/
mutual
def uptoBulk {H : Type} : DataW H → Nat
  | .lit (.string bytes) => bytes.length + 1
  | .lit _ => 1
  | .nil => 1
  | .ptr d => uptoBulk d + 1
  | .slice elems spare => uptoBulkAll elems + uptoBulkAll spare + 1
  | .agg parts => uptoBulkAll parts + 1
  | .iface _ d => uptoBulk d + 1
  | .map entries => uptoBulkEntries entries + 1
  | .held _ => 1
def uptoBulkAll {H : Type} : List (DataW H) → Nat
  | [] => 0
  | d :: r => uptoBulk d + uptoBulkAll r
def uptoBulkEntries {H : Type} : List (Lit × DataW H) → Nat
  | [] => 0
  | x :: r => uptoBulkEntry x + uptoBulkEntries r
def uptoBulkEntry {H : Type} : Lit × DataW H → Nat
  | (.string bytes, d) => bytes.length + uptoBulk d + 1
  | (_, d) => uptoBulk d + 1
 end
def uptoSmall : (H : Type) → List (DataW H) → Bool := fun _ ds => decide (uptoBulkAll ds ≤ 1048576)
def OpenSpec.upto (s : _root_.Go.ChangeSpec) : _root_.Go.OpenSpec := { _root_.Go.OpenSpec.ofChange s with cond := some uptoSmall }

/-- 'hemiolalaw08.ClefInverts', WHERE WHAT IT READS IS OF BULK AT MOST 1048576: true; the input reads as it did. -/
def clefInvertsUptoRow : OpenClaim := { program := "ytdleefphgjnhjaa", sum := "91f600fa6172a8c7606904e2a415aa3296549b6984a6d97520149750565967ea", func := "hemiola/hemiolalaw08.ClefInverts", spec := "clefInverts", apart := false, narrowed := true }
def ClefInvertsUptoSaid : Prop := clefInvertsUptoRow.holds Try.pinned (OpenSpec.upto clefInvertsSpec)

/-- 'hemiolalaw08.ClefSteps', WHERE WHAT IT READS IS OF BULK AT MOST 1048576: true; the input reads as it did. -/
def clefStepsUptoRow : OpenClaim := { program := "ytdleefphgjnhjaa", sum := "91f600fa6172a8c7606904e2a415aa3296549b6984a6d97520149750565967ea", func := "hemiola/hemiolalaw08.ClefSteps", spec := "clefSteps", apart := false, narrowed := true }
def ClefStepsUptoSaid : Prop := clefStepsUptoRow.holds Try.pinned (OpenSpec.upto clefStepsSpec)

/-- 'hemiolalaw08.ClefLedgers', WHERE WHAT IT READS IS OF BULK AT MOST 1048576: true; the input reads as it did. -/
def clefLedgersUptoRow : OpenClaim := { program := "ytdleefphgjnhjaa", sum := "91f600fa6172a8c7606904e2a415aa3296549b6984a6d97520149750565967ea", func := "hemiola/hemiolalaw08.ClefLedgers", spec := "clefLedgers", apart := false, narrowed := true }
def ClefLedgersUptoSaid : Prop := clefLedgersUptoRow.holds Try.pinned (OpenSpec.upto clefLedgersSpec)

/-- 'hemiolalaw08.ClefMirrors', WHERE WHAT IT READS IS OF BULK AT MOST 1048576: true; the input reads as it did. -/
def clefMirrorsUptoRow : OpenClaim := { program := "ytdleefphgjnhjaa", sum := "91f600fa6172a8c7606904e2a415aa3296549b6984a6d97520149750565967ea", func := "hemiola/hemiolalaw08.ClefMirrors", spec := "clefMirrors", apart := false, narrowed := true }
def ClefMirrorsUptoSaid : Prop := clefMirrorsUptoRow.holds Try.pinned (OpenSpec.upto clefMirrorsSpec)

/-- 'hemiolalaw08.ClefSignatures', WHERE WHAT IT READS IS OF BULK AT MOST 1048576: true; the input reads as it did. -/
def clefSignaturesUptoRow : OpenClaim := { program := "ytdleefphgjnhjaa", sum := "91f600fa6172a8c7606904e2a415aa3296549b6984a6d97520149750565967ea", func := "hemiola/hemiolalaw08.ClefSignatures", spec := "clefSignatures", apart := false, narrowed := true }
def ClefSignaturesUptoSaid : Prop := clefSignaturesUptoRow.holds Try.pinned (OpenSpec.upto clefSignaturesSpec)

/-- 'hemiolalaw08.ClefShapes', WHERE WHAT IT READS IS OF BULK AT MOST 1048576: true; the input reads as it did. -/
def clefShapesUptoRow : OpenClaim := { program := "ytdleefphgjnhjaa", sum := "91f600fa6172a8c7606904e2a415aa3296549b6984a6d97520149750565967ea", func := "hemiola/hemiolalaw08.ClefShapes", spec := "clefShapes", apart := false, narrowed := true }
def ClefShapesUptoSaid : Prop := clefShapesUptoRow.holds Try.pinned (OpenSpec.upto clefShapesSpec)

/-- 'hemiolalaw08.ClefPositions', WHERE WHAT IT READS IS OF BULK AT MOST 1048576: true; the input reads as it did. -/
def clefPositionsUptoRow : OpenClaim := { program := "ytdleefphgjnhjaa", sum := "91f600fa6172a8c7606904e2a415aa3296549b6984a6d97520149750565967ea", func := "hemiola/hemiolalaw08.ClefPositions", spec := "clefPositions", apart := false, narrowed := true }
def ClefPositionsUptoSaid : Prop := clefPositionsUptoRow.holds Try.pinned (OpenSpec.upto clefPositionsSpec)

/-- 'hemiolalaw08.ClefNames', WHERE WHAT IT READS IS OF BULK AT MOST 1048576: true; the input reads as it did. -/
def clefNamesUptoRow : OpenClaim := { program := "ytdleefphgjnhjaa", sum := "91f600fa6172a8c7606904e2a415aa3296549b6984a6d97520149750565967ea", func := "hemiola/hemiolalaw08.ClefNames", spec := "clefNames", apart := false, narrowed := true }
def ClefNamesUptoSaid : Prop := clefNamesUptoRow.holds Try.pinned (OpenSpec.upto clefNamesSpec)

/-- 'hemiolalaw08.ClefBest', WHERE WHAT IT READS IS OF BULK AT MOST 1048576: true; the input reads as it did. -/
def clefBestUptoRow : OpenClaim := { program := "ytdleefphgjnhjaa", sum := "91f600fa6172a8c7606904e2a415aa3296549b6984a6d97520149750565967ea", func := "hemiola/hemiolalaw08.ClefBest", spec := "clefBest", apart := false, narrowed := true }
def ClefBestUptoSaid : Prop := clefBestUptoRow.holds Try.pinned (OpenSpec.upto clefBestSpec)

end Rows
end Go.Proofs.Ytdleefphgjnhjaa
