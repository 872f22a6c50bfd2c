/-
  No cell of these rows narrows 'for every input' (looked for: loops, veiled, ifaces, maps, wideKeys, modest, calm, conditions, laid).
  DERIVED. THE GIVEN ROWS OF THIS SEAT. 11 by the template 'for every input the law returns true; each argument reads behind the call as it read before'; 0 by the template 'total and deterministic' (their statements: YthfnpakddnnccaaTotals.lean).
  GIVEN WITH THE SEED: the statements are not yours to turn. If you find one false, say at which input.
  Laid BY PROGRAM, IN A SANDBOX (cutbox-rows.mjs): the forced cells as the released guide's own fill.sh prints them over the translation f882c4b3c9686df2… (all of the seat's roots in one cut). By AI agents, Wed Nov 11 2026. No macro, syntax, notation, axiom, sorry.
-/
import Derived.Test.YthfnpakddnnccaaChecked
import GoSem.Claim
import GoSem.ClaimJoined
import GoSem.ClaimMapViews
import Derived.JoinedTies
import Derived.KernelRfl
namespace Go.Proofs.Ythfnpakddnnccaa
/- THE CELL 'sum', in the pinned program and in every row, IS THE sha256 OF THE DUMP (.gsa) THAT YthfnpakddnnccaaProg.lean LOADS. Nothing in Lean hashes anything: it is a label: what it is worth is what the hold of that sum in a sandbox is worth. -/
noncomputable def Try.pinned : Pinned := { name := "ythfnpakddnnccaa", sum := "f882c4b3c9686df2c440f7221a492f32b73921af9ea091b22cee91acd837e659", checked := Try.checked }
namespace Rows
def none {H : Type} : Left H := { results := [], args := [] }

/-- 'hemiolalaw52.JournalChecksums': WHATEVER THE INPUT: true; the input reads as it did. -/
def journalChecksumsSpec : ChangeSpec := { name := "journalChecksums", fn := fun _ => fun
  | [d1, d2, d3] => { results := [.lit (.bool true)], args := [d1, d2, d3] }
  | _ => none }
def journalChecksumsRow : OpenClaim := { program := "ythfnpakddnnccaa", sum := "f882c4b3c9686df2c440f7221a492f32b73921af9ea091b22cee91acd837e659", func := "hemiola/hemiolalaw52.JournalChecksums", spec := "journalChecksums", apart := false }
def JournalChecksumsSaid : Prop := journalChecksumsRow.holds Try.pinned (OpenSpec.ofChange journalChecksumsSpec)

/-- ITS FALSE NEIGHBOUR: 'it returns false'. Refute it at one input. -/
def journalChecksumsWrong : ChangeSpec := { name := "journalChecksums", fn := fun _ => fun
  | [d1, d2, d3] => { results := [.lit (.bool false)], args := [d1, d2, d3] }
  | _ => none }
def JournalChecksumsWrongFalsely : Prop := journalChecksumsRow.holds Try.pinned (OpenSpec.ofChange journalChecksumsWrong)

/-- 'hemiolalaw52.JournalRecords': WHATEVER THE INPUT: true; the input reads as it did. -/
def journalRecordsSpec : ChangeSpec := { name := "journalRecords", fn := fun _ => fun
  | [d1, d2, d3] => { results := [.lit (.bool true)], args := [d1, d2, d3] }
  | _ => none }
def journalRecordsRow : OpenClaim := { program := "ythfnpakddnnccaa", sum := "f882c4b3c9686df2c440f7221a492f32b73921af9ea091b22cee91acd837e659", func := "hemiola/hemiolalaw52.JournalRecords", spec := "journalRecords", apart := false }
def JournalRecordsSaid : Prop := journalRecordsRow.holds Try.pinned (OpenSpec.ofChange journalRecordsSpec)

/-- ITS FALSE NEIGHBOUR: 'it returns false'. Refute it at one input. -/
def journalRecordsWrong : ChangeSpec := { name := "journalRecords", fn := fun _ => fun
  | [d1, d2, d3] => { results := [.lit (.bool false)], args := [d1, d2, d3] }
  | _ => none }
def JournalRecordsWrongFalsely : Prop := journalRecordsRow.holds Try.pinned (OpenSpec.ofChange journalRecordsWrong)

/-- 'hemiolalaw52.JournalDecodes': WHATEVER THE INPUT: true; the input reads as it did. -/
def journalDecodesSpec : ChangeSpec := { name := "journalDecodes", fn := fun _ => fun
  | [d1, d2] => { results := [.lit (.bool true)], args := [d1, d2] }
  | _ => none }
def journalDecodesRow : OpenClaim := { program := "ythfnpakddnnccaa", sum := "f882c4b3c9686df2c440f7221a492f32b73921af9ea091b22cee91acd837e659", func := "hemiola/hemiolalaw52.JournalDecodes", spec := "journalDecodes", apart := false }
def JournalDecodesSaid : Prop := journalDecodesRow.holds Try.pinned (OpenSpec.ofChange journalDecodesSpec)

/-- ITS FALSE NEIGHBOUR: 'it returns false'. Refute it at one input. -/
def journalDecodesWrong : ChangeSpec := { name := "journalDecodes", fn := fun _ => fun
  | [d1, d2] => { results := [.lit (.bool false)], args := [d1, d2] }
  | _ => none }
def JournalDecodesWrongFalsely : Prop := journalDecodesRow.holds Try.pinned (OpenSpec.ofChange journalDecodesWrong)

/-- 'hemiolalaw52.JournalScans': WHATEVER THE INPUT: true; the input reads as it did. -/
def journalScansSpec : ChangeSpec := { name := "journalScans", fn := fun _ => fun
  | [d] => { results := [.lit (.bool true)], args := [d] }
  | _ => none }
def journalScansRow : OpenClaim := { program := "ythfnpakddnnccaa", sum := "f882c4b3c9686df2c440f7221a492f32b73921af9ea091b22cee91acd837e659", func := "hemiola/hemiolalaw52.JournalScans", spec := "journalScans", unfollowed := true, recurses := true, apart := false }
def JournalScansSaid : Prop := journalScansRow.holds Try.pinned (OpenSpec.ofChange journalScansSpec)

/-- ITS FALSE NEIGHBOUR: 'it returns false'. Refute it at one input. -/
def journalScansWrong : ChangeSpec := { name := "journalScans", fn := fun _ => fun
  | [d] => { results := [.lit (.bool false)], args := [d] }
  | _ => none }
def JournalScansWrongFalsely : Prop := journalScansRow.holds Try.pinned (OpenSpec.ofChange journalScansWrong)

/-- 'hemiolalaw52.JournalCrashes': WHATEVER THE INPUT: true; the input reads as it did. -/
def journalCrashesSpec : ChangeSpec := { name := "journalCrashes", fn := fun _ => fun
  | [d1, d2, d3] => { results := [.lit (.bool true)], args := [d1, d2, d3] }
  | _ => none }
def journalCrashesRow : OpenClaim := { program := "ythfnpakddnnccaa", sum := "f882c4b3c9686df2c440f7221a492f32b73921af9ea091b22cee91acd837e659", func := "hemiola/hemiolalaw52.JournalCrashes", spec := "journalCrashes", unfollowed := true, recurses := true, apart := false }
def JournalCrashesSaid : Prop := journalCrashesRow.holds Try.pinned (OpenSpec.ofChange journalCrashesSpec)

/-- ITS FALSE NEIGHBOUR: 'it returns false'. Refute it at one input. -/
def journalCrashesWrong : ChangeSpec := { name := "journalCrashes", fn := fun _ => fun
  | [d1, d2, d3] => { results := [.lit (.bool false)], args := [d1, d2, d3] }
  | _ => none }
def JournalCrashesWrongFalsely : Prop := journalCrashesRow.holds Try.pinned (OpenSpec.ofChange journalCrashesWrong)

/-- 'hemiolalaw52.JournalClones': WHATEVER THE INPUT: true; the input reads as it did. -/
def journalClonesSpec : ChangeSpec := { name := "journalClones", fn := fun _ => fun
  | [d1, d2] => { results := [.lit (.bool true)], args := [d1, d2] }
  | _ => none }
def journalClonesRow : OpenClaim := { program := "ythfnpakddnnccaa", sum := "f882c4b3c9686df2c440f7221a492f32b73921af9ea091b22cee91acd837e659", func := "hemiola/hemiolalaw52.JournalClones", spec := "journalClones", unfollowed := true, recurses := true, apart := false }
def JournalClonesSaid : Prop := journalClonesRow.holds Try.pinned (OpenSpec.ofChange journalClonesSpec)

/-- ITS FALSE NEIGHBOUR: 'it returns false'. Refute it at one input. -/
def journalClonesWrong : ChangeSpec := { name := "journalClones", fn := fun _ => fun
  | [d1, d2] => { results := [.lit (.bool false)], args := [d1, d2] }
  | _ => none }
def JournalClonesWrongFalsely : Prop := journalClonesRow.holds Try.pinned (OpenSpec.ofChange journalClonesWrong)

/-- 'hemiolalaw52.JournalFiles': WHATEVER THE INPUT: true; the input reads as it did. -/
def journalFilesSpec : ChangeSpec := { name := "journalFiles", fn := fun _ => fun
  | [d] => { results := [.lit (.bool true)], args := [d] }
  | _ => none }
def journalFilesRow : OpenClaim := { program := "ythfnpakddnnccaa", sum := "f882c4b3c9686df2c440f7221a492f32b73921af9ea091b22cee91acd837e659", func := "hemiola/hemiolalaw52.JournalFiles", spec := "journalFiles", apart := false }
def JournalFilesSaid : Prop := journalFilesRow.holds Try.pinned (OpenSpec.ofChange journalFilesSpec)

/-- ITS FALSE NEIGHBOUR: 'it returns false'. Refute it at one input. -/
def journalFilesWrong : ChangeSpec := { name := "journalFiles", fn := fun _ => fun
  | [d] => { results := [.lit (.bool false)], args := [d] }
  | _ => none }
def JournalFilesWrongFalsely : Prop := journalFilesRow.holds Try.pinned (OpenSpec.ofChange journalFilesWrong)

/-- 'hemiolalaw52.JournalKeeps': WHATEVER THE INPUT: true; the input reads as it did. -/
def journalKeepsSpec : ChangeSpec := { name := "journalKeeps", fn := fun _ => fun
  | [d1, d2, d3] => { results := [.lit (.bool true)], args := [d1, d2, d3] }
  | _ => none }
def journalKeepsRow : OpenClaim := { program := "ythfnpakddnnccaa", sum := "f882c4b3c9686df2c440f7221a492f32b73921af9ea091b22cee91acd837e659", func := "hemiola/hemiolalaw52.JournalKeeps", spec := "journalKeeps", apart := false }
def JournalKeepsSaid : Prop := journalKeepsRow.holds Try.pinned (OpenSpec.ofChange journalKeepsSpec)

/-- ITS FALSE NEIGHBOUR: 'it returns false'. Refute it at one input. -/
def journalKeepsWrong : ChangeSpec := { name := "journalKeeps", fn := fun _ => fun
  | [d1, d2, d3] => { results := [.lit (.bool false)], args := [d1, d2, d3] }
  | _ => none }
def JournalKeepsWrongFalsely : Prop := journalKeepsRow.holds Try.pinned (OpenSpec.ofChange journalKeepsWrong)

/-- 'hemiolalaw52.JournalDurable': WHATEVER THE INPUT: true; the input reads as it did. -/
def journalDurableSpec : ChangeSpec := { name := "journalDurable", fn := fun _ => fun
  | [d1, d2] => { results := [.lit (.bool true)], args := [d1, d2] }
  | _ => none }
def journalDurableRow : OpenClaim := { program := "ythfnpakddnnccaa", sum := "f882c4b3c9686df2c440f7221a492f32b73921af9ea091b22cee91acd837e659", func := "hemiola/hemiolalaw52.JournalDurable", spec := "journalDurable", unfollowed := true, recurses := true, apart := false }
def JournalDurableSaid : Prop := journalDurableRow.holds Try.pinned (OpenSpec.ofChange journalDurableSpec)

/-- ITS FALSE NEIGHBOUR: 'it returns false'. Refute it at one input. -/
def journalDurableWrong : ChangeSpec := { name := "journalDurable", fn := fun _ => fun
  | [d1, d2] => { results := [.lit (.bool false)], args := [d1, d2] }
  | _ => none }
def JournalDurableWrongFalsely : Prop := journalDurableRow.holds Try.pinned (OpenSpec.ofChange journalDurableWrong)

/-- 'hemiolalaw52.JournalContinues': WHATEVER THE INPUT: true; the input reads as it did. -/
def journalContinuesSpec : ChangeSpec := { name := "journalContinues", fn := fun _ => fun
  | [d1, d2] => { results := [.lit (.bool true)], args := [d1, d2] }
  | _ => none }
def journalContinuesRow : OpenClaim := { program := "ythfnpakddnnccaa", sum := "f882c4b3c9686df2c440f7221a492f32b73921af9ea091b22cee91acd837e659", func := "hemiola/hemiolalaw52.JournalContinues", spec := "journalContinues", unfollowed := true, recurses := true, apart := false }
def JournalContinuesSaid : Prop := journalContinuesRow.holds Try.pinned (OpenSpec.ofChange journalContinuesSpec)

/-- ITS FALSE NEIGHBOUR: 'it returns false'. Refute it at one input. -/
def journalContinuesWrong : ChangeSpec := { name := "journalContinues", fn := fun _ => fun
  | [d1, d2] => { results := [.lit (.bool false)], args := [d1, d2] }
  | _ => none }
def JournalContinuesWrongFalsely : Prop := journalContinuesRow.holds Try.pinned (OpenSpec.ofChange journalContinuesWrong)

/-- 'hemiolalaw52.JournalAppends': WHATEVER THE INPUT: true; the input reads as it did. -/
def journalAppendsSpec : ChangeSpec := { name := "journalAppends", fn := fun _ => fun
  | [d1, d2, d3] => { results := [.lit (.bool true)], args := [d1, d2, d3] }
  | _ => none }
def journalAppendsRow : OpenClaim := { program := "ythfnpakddnnccaa", sum := "f882c4b3c9686df2c440f7221a492f32b73921af9ea091b22cee91acd837e659", func := "hemiola/hemiolalaw52.JournalAppends", spec := "journalAppends", unfollowed := true, recurses := true, apart := false }
def JournalAppendsSaid : Prop := journalAppendsRow.holds Try.pinned (OpenSpec.ofChange journalAppendsSpec)

/-- ITS FALSE NEIGHBOUR: 'it returns false'. Refute it at one input. -/
def journalAppendsWrong : ChangeSpec := { name := "journalAppends", fn := fun _ => fun
  | [d1, d2, d3] => { results := [.lit (.bool false)], args := [d1, d2, d3] }
  | _ => none }
def JournalAppendsWrongFalsely : Prop := journalAppendsRow.holds Try.pinned (OpenSpec.ofChange journalAppendsWrong)

/- THE SECOND FORM. 'bulk': how many values and letters a reading holds, each counted each time it is reached (what is shared counts as often as it is met; a slice's spare places count too). A statement '..UptoSaid' is the law's where the arguments, and the package variables that the reading takes, are together of bulk at most 1048576: NARROWER than '..Said'. Prove '..Said' where nothing that the law and all that it calls make is longer than what came in: it says more and counts as full. Else prove '..UptoSaid'. A law counts once. -/
mutual
def uptoBulk {H : Type} : DataW H → Nat
  | .lit (.string bytes) => bytes.length + 1
  | .lit _ => 1
  | .nil => 1
  | .ptr d => uptoBulk d + 1
  | .slice elems spare => uptoBulkAll elems + uptoBulkAll spare + 1
  | .agg parts => uptoBulkAll parts + 1
  | .iface _ d => uptoBulk d + 1
  | .map entries => uptoBulkEntries entries + 1
  | .held _ => 1
def uptoBulkAll {H : Type} : List (DataW H) → Nat
  | [] => 0
  | d :: r => uptoBulk d + uptoBulkAll r
def uptoBulkEntries {H : Type} : List (Lit × DataW H) → Nat
  | [] => 0
  | x :: r => uptoBulkEntry x + uptoBulkEntries r
def uptoBulkEntry {H : Type} : Lit × DataW H → Nat
  | (.string bytes, d) => bytes.length + uptoBulk d + 1
  | (_, d) => uptoBulk d + 1
 end
def uptoSmall : (H : Type) → List (DataW H) → Bool := fun _ ds => decide (uptoBulkAll ds ≤ 1048576)
def OpenSpec.upto (s : _root_.Go.ChangeSpec) : _root_.Go.OpenSpec := { _root_.Go.OpenSpec.ofChange s with cond := some uptoSmall }

/-- 'hemiolalaw52.JournalChecksums', WHERE WHAT IT READS IS OF BULK AT MOST 1048576: true; the input reads as it did. -/
def journalChecksumsUptoRow : OpenClaim := { program := "ythfnpakddnnccaa", sum := "f882c4b3c9686df2c440f7221a492f32b73921af9ea091b22cee91acd837e659", func := "hemiola/hemiolalaw52.JournalChecksums", spec := "journalChecksums", apart := false, narrowed := true }
def JournalChecksumsUptoSaid : Prop := journalChecksumsUptoRow.holds Try.pinned (OpenSpec.upto journalChecksumsSpec)

/-- 'hemiolalaw52.JournalRecords', WHERE WHAT IT READS IS OF BULK AT MOST 1048576: true; the input reads as it did. -/
def journalRecordsUptoRow : OpenClaim := { program := "ythfnpakddnnccaa", sum := "f882c4b3c9686df2c440f7221a492f32b73921af9ea091b22cee91acd837e659", func := "hemiola/hemiolalaw52.JournalRecords", spec := "journalRecords", apart := false, narrowed := true }
def JournalRecordsUptoSaid : Prop := journalRecordsUptoRow.holds Try.pinned (OpenSpec.upto journalRecordsSpec)

/-- 'hemiolalaw52.JournalDecodes', WHERE WHAT IT READS IS OF BULK AT MOST 1048576: true; the input reads as it did. -/
def journalDecodesUptoRow : OpenClaim := { program := "ythfnpakddnnccaa", sum := "f882c4b3c9686df2c440f7221a492f32b73921af9ea091b22cee91acd837e659", func := "hemiola/hemiolalaw52.JournalDecodes", spec := "journalDecodes", apart := false, narrowed := true }
def JournalDecodesUptoSaid : Prop := journalDecodesUptoRow.holds Try.pinned (OpenSpec.upto journalDecodesSpec)

/-- 'hemiolalaw52.JournalScans', WHERE WHAT IT READS IS OF BULK AT MOST 1048576: true; the input reads as it did. -/
def journalScansUptoRow : OpenClaim := { program := "ythfnpakddnnccaa", sum := "f882c4b3c9686df2c440f7221a492f32b73921af9ea091b22cee91acd837e659", func := "hemiola/hemiolalaw52.JournalScans", spec := "journalScans", unfollowed := true, recurses := true, apart := false, narrowed := true }
def JournalScansUptoSaid : Prop := journalScansUptoRow.holds Try.pinned (OpenSpec.upto journalScansSpec)

/-- 'hemiolalaw52.JournalCrashes', WHERE WHAT IT READS IS OF BULK AT MOST 1048576: true; the input reads as it did. -/
def journalCrashesUptoRow : OpenClaim := { program := "ythfnpakddnnccaa", sum := "f882c4b3c9686df2c440f7221a492f32b73921af9ea091b22cee91acd837e659", func := "hemiola/hemiolalaw52.JournalCrashes", spec := "journalCrashes", unfollowed := true, recurses := true, apart := false, narrowed := true }
def JournalCrashesUptoSaid : Prop := journalCrashesUptoRow.holds Try.pinned (OpenSpec.upto journalCrashesSpec)

/-- 'hemiolalaw52.JournalClones', WHERE WHAT IT READS IS OF BULK AT MOST 1048576: true; the input reads as it did. -/
def journalClonesUptoRow : OpenClaim := { program := "ythfnpakddnnccaa", sum := "f882c4b3c9686df2c440f7221a492f32b73921af9ea091b22cee91acd837e659", func := "hemiola/hemiolalaw52.JournalClones", spec := "journalClones", unfollowed := true, recurses := true, apart := false, narrowed := true }
def JournalClonesUptoSaid : Prop := journalClonesUptoRow.holds Try.pinned (OpenSpec.upto journalClonesSpec)

/-- 'hemiolalaw52.JournalFiles', WHERE WHAT IT READS IS OF BULK AT MOST 1048576: true; the input reads as it did. -/
def journalFilesUptoRow : OpenClaim := { program := "ythfnpakddnnccaa", sum := "f882c4b3c9686df2c440f7221a492f32b73921af9ea091b22cee91acd837e659", func := "hemiola/hemiolalaw52.JournalFiles", spec := "journalFiles", apart := false, narrowed := true }
def JournalFilesUptoSaid : Prop := journalFilesUptoRow.holds Try.pinned (OpenSpec.upto journalFilesSpec)

/-- 'hemiolalaw52.JournalKeeps', WHERE WHAT IT READS IS OF BULK AT MOST 1048576: true; the input reads as it did. -/
def journalKeepsUptoRow : OpenClaim := { program := "ythfnpakddnnccaa", sum := "f882c4b3c9686df2c440f7221a492f32b73921af9ea091b22cee91acd837e659", func := "hemiola/hemiolalaw52.JournalKeeps", spec := "journalKeeps", apart := false, narrowed := true }
def JournalKeepsUptoSaid : Prop := journalKeepsUptoRow.holds Try.pinned (OpenSpec.upto journalKeepsSpec)

/-- 'hemiolalaw52.JournalDurable', WHERE WHAT IT READS IS OF BULK AT MOST 1048576: true; the input reads as it did. -/
def journalDurableUptoRow : OpenClaim := { program := "ythfnpakddnnccaa", sum := "f882c4b3c9686df2c440f7221a492f32b73921af9ea091b22cee91acd837e659", func := "hemiola/hemiolalaw52.JournalDurable", spec := "journalDurable", unfollowed := true, recurses := true, apart := false, narrowed := true }
def JournalDurableUptoSaid : Prop := journalDurableUptoRow.holds Try.pinned (OpenSpec.upto journalDurableSpec)

/-- 'hemiolalaw52.JournalContinues', WHERE WHAT IT READS IS OF BULK AT MOST 1048576: true; the input reads as it did. -/
def journalContinuesUptoRow : OpenClaim := { program := "ythfnpakddnnccaa", sum := "f882c4b3c9686df2c440f7221a492f32b73921af9ea091b22cee91acd837e659", func := "hemiola/hemiolalaw52.JournalContinues", spec := "journalContinues", unfollowed := true, recurses := true, apart := false, narrowed := true }
def JournalContinuesUptoSaid : Prop := journalContinuesUptoRow.holds Try.pinned (OpenSpec.upto journalContinuesSpec)

/-- 'hemiolalaw52.JournalAppends', WHERE WHAT IT READS IS OF BULK AT MOST 1048576: true; the input reads as it did. -/
def journalAppendsUptoRow : OpenClaim := { program := "ythfnpakddnnccaa", sum := "f882c4b3c9686df2c440f7221a492f32b73921af9ea091b22cee91acd837e659", func := "hemiola/hemiolalaw52.JournalAppends", spec := "journalAppends", unfollowed := true, recurses := true, apart := false, narrowed := true }
def JournalAppendsUptoSaid : Prop := journalAppendsUptoRow.holds Try.pinned (OpenSpec.upto journalAppendsSpec)

end Rows
end Go.Proofs.Ythfnpakddnnccaa
