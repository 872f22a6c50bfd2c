/-
  No cell of these rows narrows 'for every input' (looked for: loops, veiled, ifaces, maps, wideKeys, modest, calm, conditions, laid).
  DERIVED. THE GIVEN ROWS OF THIS SEAT. 8 by the template 'for every input the law returns true; each argument reads behind the call as it read before'; 0 by the template 'total and deterministic' (their statements: YtdmhjcnijebfgaaTotals.lean).
  GIVEN WITH THE SEED: the statements are not yours to turn. If you find one false, say at which input.
  Laid BY PROGRAM, IN A SANDBOX (cutbox-rows.mjs): the forced cells as the released guide's own fill.sh prints them over the translation 8b593bccc0c62325… (all of the seat's roots in one cut). By AI agents, Wed Nov 11 2026. No macro, syntax, notation, axiom, sorry.
-/
import Derived.Test.YtdmhjcnijebfgaaChecked
import GoSem.Claim
import GoSem.ClaimJoined
import GoSem.ClaimMapViews
import Derived.JoinedTies
import Derived.KernelRfl
namespace Go.Proofs.Ytdmhjcnijebfgaa
/- THE CELL 'sum', in the pinned program and in every row, IS THE sha256 OF THE DUMP (.gsa) THAT YtdmhjcnijebfgaaProg.lean LOADS. Nothing in Lean hashes anything: it is a label: what it is worth is what the hold of that sum in a sandbox is worth. -/
noncomputable def Try.pinned : Pinned := { name := "ytdmhjcnijebfgaa", sum := "8b593bccc0c623251ded846761e21c741e9bb42e935d451bda13efbf2a321088", checked := Try.checked }
namespace Rows
def none {H : Type} : Left H := { results := [], args := [] }

/-- 'hemiolalaw09.SpellingBest': WHATEVER THE INPUT: true; the input reads as it did. -/
def spellingBestSpec : ChangeSpec := { name := "spellingBest", fn := fun _ => fun
  | [d1, d2] => { results := [.lit (.bool true)], args := [d1, d2] }
  | _ => none }
def spellingBestRow : OpenClaim := { program := "ytdmhjcnijebfgaa", sum := "8b593bccc0c623251ded846761e21c741e9bb42e935d451bda13efbf2a321088", func := "hemiola/hemiolalaw09.SpellingBest", spec := "spellingBest", unfollowed := true, recurses := true, apart := false }
def SpellingBestSaid : Prop := spellingBestRow.holds Try.pinned (OpenSpec.ofChange spellingBestSpec)

/-- ITS FALSE NEIGHBOUR: 'it returns false'. Refute it at one input. -/
def spellingBestWrong : ChangeSpec := { name := "spellingBest", fn := fun _ => fun
  | [d1, d2] => { results := [.lit (.bool false)], args := [d1, d2] }
  | _ => none }
def SpellingBestWrongFalsely : Prop := spellingBestRow.holds Try.pinned (OpenSpec.ofChange spellingBestWrong)

/-- 'hemiolalaw09.SpellingLeast': WHATEVER THE INPUT: true; the input reads as it did. -/
def spellingLeastSpec : ChangeSpec := { name := "spellingLeast", fn := fun _ => fun
  | [d1, d2] => { results := [.lit (.bool true)], args := [d1, d2] }
  | _ => none }
def spellingLeastRow : OpenClaim := { program := "ytdmhjcnijebfgaa", sum := "8b593bccc0c623251ded846761e21c741e9bb42e935d451bda13efbf2a321088", func := "hemiola/hemiolalaw09.SpellingLeast", spec := "spellingLeast", unfollowed := true, recurses := true, apart := false }
def SpellingLeastSaid : Prop := spellingLeastRow.holds Try.pinned (OpenSpec.ofChange spellingLeastSpec)

/-- ITS FALSE NEIGHBOUR: 'it returns false'. Refute it at one input. -/
def spellingLeastWrong : ChangeSpec := { name := "spellingLeast", fn := fun _ => fun
  | [d1, d2] => { results := [.lit (.bool false)], args := [d1, d2] }
  | _ => none }
def SpellingLeastWrongFalsely : Prop := spellingLeastRow.holds Try.pinned (OpenSpec.ofChange spellingLeastWrong)

/-- 'hemiolalaw09.SpellingCosts': WHATEVER THE INPUT: true; the input reads as it did. -/
def spellingCostsSpec : ChangeSpec := { name := "spellingCosts", fn := fun _ => fun
  | [d1, d2] => { results := [.lit (.bool true)], args := [d1, d2] }
  | _ => none }
def spellingCostsRow : OpenClaim := { program := "ytdmhjcnijebfgaa", sum := "8b593bccc0c623251ded846761e21c741e9bb42e935d451bda13efbf2a321088", func := "hemiola/hemiolalaw09.SpellingCosts", spec := "spellingCosts", unfollowed := true, recurses := true, apart := false }
def SpellingCostsSaid : Prop := spellingCostsRow.holds Try.pinned (OpenSpec.ofChange spellingCostsSpec)

/-- ITS FALSE NEIGHBOUR: 'it returns false'. Refute it at one input. -/
def spellingCostsWrong : ChangeSpec := { name := "spellingCosts", fn := fun _ => fun
  | [d1, d2] => { results := [.lit (.bool false)], args := [d1, d2] }
  | _ => none }
def SpellingCostsWrongFalsely : Prop := spellingCostsRow.holds Try.pinned (OpenSpec.ofChange spellingCostsWrong)

/-- 'hemiolalaw09.SpellingErrors': WHATEVER THE INPUT: true; the input reads as it did. -/
def spellingErrorsSpec : ChangeSpec := { name := "spellingErrors", fn := fun _ => fun
  | [d1, d2] => { results := [.lit (.bool true)], args := [d1, d2] }
  | _ => none }
def spellingErrorsRow : OpenClaim := { program := "ytdmhjcnijebfgaa", sum := "8b593bccc0c623251ded846761e21c741e9bb42e935d451bda13efbf2a321088", func := "hemiola/hemiolalaw09.SpellingErrors", spec := "spellingErrors", unfollowed := true, recurses := true, apart := false }
def SpellingErrorsSaid : Prop := spellingErrorsRow.holds Try.pinned (OpenSpec.ofChange spellingErrorsSpec)

/-- ITS FALSE NEIGHBOUR: 'it returns false'. Refute it at one input. -/
def spellingErrorsWrong : ChangeSpec := { name := "spellingErrors", fn := fun _ => fun
  | [d1, d2] => { results := [.lit (.bool false)], args := [d1, d2] }
  | _ => none }
def SpellingErrorsWrongFalsely : Prop := spellingErrorsRow.holds Try.pinned (OpenSpec.ofChange spellingErrorsWrong)

/-- 'hemiolalaw09.SpellingScales': WHATEVER THE INPUT: true; the input reads as it did. -/
def spellingScalesSpec : ChangeSpec := { name := "spellingScales", fn := fun _ => fun
  | [d1, d2] => { results := [.lit (.bool true)], args := [d1, d2] }
  | _ => none }
def spellingScalesRow : OpenClaim := { program := "ytdmhjcnijebfgaa", sum := "8b593bccc0c623251ded846761e21c741e9bb42e935d451bda13efbf2a321088", func := "hemiola/hemiolalaw09.SpellingScales", spec := "spellingScales", unfollowed := true, recurses := true, apart := false }
def SpellingScalesSaid : Prop := spellingScalesRow.holds Try.pinned (OpenSpec.ofChange spellingScalesSpec)

/-- ITS FALSE NEIGHBOUR: 'it returns false'. Refute it at one input. -/
def spellingScalesWrong : ChangeSpec := { name := "spellingScales", fn := fun _ => fun
  | [d1, d2] => { results := [.lit (.bool false)], args := [d1, d2] }
  | _ => none }
def SpellingScalesWrongFalsely : Prop := spellingScalesRow.holds Try.pinned (OpenSpec.ofChange spellingScalesWrong)

/-- 'hemiolalaw09.SpellingAlone': WHATEVER THE INPUT: true; the input reads as it did. -/
def spellingAloneSpec : ChangeSpec := { name := "spellingAlone", fn := fun _ => fun
  | [d1, d2] => { results := [.lit (.bool true)], args := [d1, d2] }
  | _ => none }
def spellingAloneRow : OpenClaim := { program := "ytdmhjcnijebfgaa", sum := "8b593bccc0c623251ded846761e21c741e9bb42e935d451bda13efbf2a321088", func := "hemiola/hemiolalaw09.SpellingAlone", spec := "spellingAlone", unfollowed := true, recurses := true, apart := false }
def SpellingAloneSaid : Prop := spellingAloneRow.holds Try.pinned (OpenSpec.ofChange spellingAloneSpec)

/-- ITS FALSE NEIGHBOUR: 'it returns false'. Refute it at one input. -/
def spellingAloneWrong : ChangeSpec := { name := "spellingAlone", fn := fun _ => fun
  | [d1, d2] => { results := [.lit (.bool false)], args := [d1, d2] }
  | _ => none }
def SpellingAloneWrongFalsely : Prop := spellingAloneRow.holds Try.pinned (OpenSpec.ofChange spellingAloneWrong)

/-- 'hemiolalaw09.SpellingChords': WHATEVER THE INPUT: true; the input reads as it did. -/
def spellingChordsSpec : ChangeSpec := { name := "spellingChords", fn := fun _ => fun
  | [d1, d2] => { results := [.lit (.bool true)], args := [d1, d2] }
  | _ => none }
def spellingChordsRow : OpenClaim := { program := "ytdmhjcnijebfgaa", sum := "8b593bccc0c623251ded846761e21c741e9bb42e935d451bda13efbf2a321088", func := "hemiola/hemiolalaw09.SpellingChords", spec := "spellingChords", unfollowed := true, recurses := true, apart := false }
def SpellingChordsSaid : Prop := spellingChordsRow.holds Try.pinned (OpenSpec.ofChange spellingChordsSpec)

/-- ITS FALSE NEIGHBOUR: 'it returns false'. Refute it at one input. -/
def spellingChordsWrong : ChangeSpec := { name := "spellingChords", fn := fun _ => fun
  | [d1, d2] => { results := [.lit (.bool false)], args := [d1, d2] }
  | _ => none }
def SpellingChordsWrongFalsely : Prop := spellingChordsRow.holds Try.pinned (OpenSpec.ofChange spellingChordsWrong)

/-- 'hemiolalaw09.SpellingChordErrors': WHATEVER THE INPUT: true; the input reads as it did. -/
def spellingChordErrorsSpec : ChangeSpec := { name := "spellingChordErrors", fn := fun _ => fun
  | [d1, d2] => { results := [.lit (.bool true)], args := [d1, d2] }
  | _ => none }
def spellingChordErrorsRow : OpenClaim := { program := "ytdmhjcnijebfgaa", sum := "8b593bccc0c623251ded846761e21c741e9bb42e935d451bda13efbf2a321088", func := "hemiola/hemiolalaw09.SpellingChordErrors", spec := "spellingChordErrors", unfollowed := true, recurses := true, apart := false }
def SpellingChordErrorsSaid : Prop := spellingChordErrorsRow.holds Try.pinned (OpenSpec.ofChange spellingChordErrorsSpec)

/-- ITS FALSE NEIGHBOUR: 'it returns false'. Refute it at one input. -/
def spellingChordErrorsWrong : ChangeSpec := { name := "spellingChordErrors", fn := fun _ => fun
  | [d1, d2] => { results := [.lit (.bool false)], args := [d1, d2] }
  | _ => none }
def SpellingChordErrorsWrongFalsely : Prop := spellingChordErrorsRow.holds Try.pinned (OpenSpec.ofChange spellingChordErrorsWrong)

/- THE SECOND FORM. 'bulk': how many values and letters a reading holds, each counted each time it is reached (what is shared counts as often as it is met; a slice's spare places count too). A statement '..UptoSaid' is the law's where the arguments, and the package variables that the reading takes, are together of bulk at most 1048576: NARROWER than '..Said'. Prove '..Said' where nothing that the law and all that it calls make is longer than what came in: it says more and counts as full. Else prove '..UptoSaid'. A law counts once. -/
mutual
def uptoBulk {H : Type} : DataW H → Nat
  | .lit (.string bytes) => bytes.length + 1
  | .lit _ => 1
  | .nil => 1
  | .ptr d => uptoBulk d + 1
  | .slice elems spare => uptoBulkAll elems + uptoBulkAll spare + 1
  | .agg parts => uptoBulkAll parts + 1
  | .iface _ d => uptoBulk d + 1
  | .map entries => uptoBulkEntries entries + 1
  | .held _ => 1
def uptoBulkAll {H : Type} : List (DataW H) → Nat
  | [] => 0
  | d :: r => uptoBulk d + uptoBulkAll r
def uptoBulkEntries {H : Type} : List (Lit × DataW H) → Nat
  | [] => 0
  | x :: r => uptoBulkEntry x + uptoBulkEntries r
def uptoBulkEntry {H : Type} : Lit × DataW H → Nat
  | (.string bytes, d) => bytes.length + uptoBulk d + 1
  | (_, d) => uptoBulk d + 1
 end
def uptoSmall : (H : Type) → List (DataW H) → Bool := fun _ ds => decide (uptoBulkAll ds ≤ 1048576)
def OpenSpec.upto (s : _root_.Go.ChangeSpec) : _root_.Go.OpenSpec := { _root_.Go.OpenSpec.ofChange s with cond := some uptoSmall }

/-- 'hemiolalaw09.SpellingBest', WHERE WHAT IT READS IS OF BULK AT MOST 1048576: true; the input reads as it did. -/
def spellingBestUptoRow : OpenClaim := { program := "ytdmhjcnijebfgaa", sum := "8b593bccc0c623251ded846761e21c741e9bb42e935d451bda13efbf2a321088", func := "hemiola/hemiolalaw09.SpellingBest", spec := "spellingBest", unfollowed := true, recurses := true, apart := false, narrowed := true }
def SpellingBestUptoSaid : Prop := spellingBestUptoRow.holds Try.pinned (OpenSpec.upto spellingBestSpec)

/-- 'hemiolalaw09.SpellingLeast', WHERE WHAT IT READS IS OF BULK AT MOST 1048576: true; the input reads as it did. -/
def spellingLeastUptoRow : OpenClaim := { program := "ytdmhjcnijebfgaa", sum := "8b593bccc0c623251ded846761e21c741e9bb42e935d451bda13efbf2a321088", func := "hemiola/hemiolalaw09.SpellingLeast", spec := "spellingLeast", unfollowed := true, recurses := true, apart := false, narrowed := true }
def SpellingLeastUptoSaid : Prop := spellingLeastUptoRow.holds Try.pinned (OpenSpec.upto spellingLeastSpec)

/-- 'hemiolalaw09.SpellingCosts', WHERE WHAT IT READS IS OF BULK AT MOST 1048576: true; the input reads as it did. -/
def spellingCostsUptoRow : OpenClaim := { program := "ytdmhjcnijebfgaa", sum := "8b593bccc0c623251ded846761e21c741e9bb42e935d451bda13efbf2a321088", func := "hemiola/hemiolalaw09.SpellingCosts", spec := "spellingCosts", unfollowed := true, recurses := true, apart := false, narrowed := true }
def SpellingCostsUptoSaid : Prop := spellingCostsUptoRow.holds Try.pinned (OpenSpec.upto spellingCostsSpec)

/-- 'hemiolalaw09.SpellingErrors', WHERE WHAT IT READS IS OF BULK AT MOST 1048576: true; the input reads as it did. -/
def spellingErrorsUptoRow : OpenClaim := { program := "ytdmhjcnijebfgaa", sum := "8b593bccc0c623251ded846761e21c741e9bb42e935d451bda13efbf2a321088", func := "hemiola/hemiolalaw09.SpellingErrors", spec := "spellingErrors", unfollowed := true, recurses := true, apart := false, narrowed := true }
def SpellingErrorsUptoSaid : Prop := spellingErrorsUptoRow.holds Try.pinned (OpenSpec.upto spellingErrorsSpec)

/-- 'hemiolalaw09.SpellingScales', WHERE WHAT IT READS IS OF BULK AT MOST 1048576: true; the input reads as it did. -/
def spellingScalesUptoRow : OpenClaim := { program := "ytdmhjcnijebfgaa", sum := "8b593bccc0c623251ded846761e21c741e9bb42e935d451bda13efbf2a321088", func := "hemiola/hemiolalaw09.SpellingScales", spec := "spellingScales", unfollowed := true, recurses := true, apart := false, narrowed := true }
def SpellingScalesUptoSaid : Prop := spellingScalesUptoRow.holds Try.pinned (OpenSpec.upto spellingScalesSpec)

/-- 'hemiolalaw09.SpellingAlone', WHERE WHAT IT READS IS OF BULK AT MOST 1048576: true; the input reads as it did. -/
def spellingAloneUptoRow : OpenClaim := { program := "ytdmhjcnijebfgaa", sum := "8b593bccc0c623251ded846761e21c741e9bb42e935d451bda13efbf2a321088", func := "hemiola/hemiolalaw09.SpellingAlone", spec := "spellingAlone", unfollowed := true, recurses := true, apart := false, narrowed := true }
def SpellingAloneUptoSaid : Prop := spellingAloneUptoRow.holds Try.pinned (OpenSpec.upto spellingAloneSpec)

/-- 'hemiolalaw09.SpellingChords', WHERE WHAT IT READS IS OF BULK AT MOST 1048576: true; the input reads as it did. -/
def spellingChordsUptoRow : OpenClaim := { program := "ytdmhjcnijebfgaa", sum := "8b593bccc0c623251ded846761e21c741e9bb42e935d451bda13efbf2a321088", func := "hemiola/hemiolalaw09.SpellingChords", spec := "spellingChords", unfollowed := true, recurses := true, apart := false, narrowed := true }
def SpellingChordsUptoSaid : Prop := spellingChordsUptoRow.holds Try.pinned (OpenSpec.upto spellingChordsSpec)

/-- 'hemiolalaw09.SpellingChordErrors', WHERE WHAT IT READS IS OF BULK AT MOST 1048576: true; the input reads as it did. -/
def spellingChordErrorsUptoRow : OpenClaim := { program := "ytdmhjcnijebfgaa", sum := "8b593bccc0c623251ded846761e21c741e9bb42e935d451bda13efbf2a321088", func := "hemiola/hemiolalaw09.SpellingChordErrors", spec := "spellingChordErrors", unfollowed := true, recurses := true, apart := false, narrowed := true }
def SpellingChordErrorsUptoSaid : Prop := spellingChordErrorsUptoRow.holds Try.pinned (OpenSpec.upto spellingChordErrorsSpec)

end Rows
end Go.Proofs.Ytdmhjcnijebfgaa
