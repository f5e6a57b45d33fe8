/-
  No cell of these rows narrows 'for every input' (looked for: loops, veiled, ifaces, maps, wideKeys, modest, calm, conditions, laid).
  DERIVED. THE GIVEN ROWS OF THIS SEAT. 4 by the template 'for every input the law returns true; each argument reads behind the call as it read before'; 0 by the template 'total and deterministic' (their statements: YtoknpcohhnlncaaTotals.lean).
  GIVEN WITH THE SEED: the statements are not yours to turn. If you find one false, say at which input.
  Laid BY PROGRAM, IN A SANDBOX (cutbox-rows.mjs): the forced cells as the released guide's own fill.sh prints them over the translation ca116b400c3f41e5… (all of the seat's roots in one cut). By AI agents, Wed Nov 11 2026. No macro, syntax, notation, axiom, sorry.
-/
import Derived.Test.YtoknpcohhnlncaaChecked
import GoSem.Claim
import GoSem.ClaimJoined
import GoSem.ClaimMapViews
import Derived.JoinedTies
import Derived.KernelRfl
namespace Go.Proofs.Ytoknpcohhnlncaa
/- THE CELL 'sum', in the pinned program and in every row, IS THE sha256 OF THE DUMP (.gsa) THAT YtoknpcohhnlncaaProg.lean LOADS. Nothing in Lean hashes anything: it is a label: what it is worth is what the hold of that sum in a sandbox is worth. -/
noncomputable def Try.pinned : Pinned := { name := "ytoknpcohhnlncaa", sum := "ca116b400c3f41e550c3899a5d9648f7adca6888cd1630afa5ca4e54571c0415", checked := Try.checked }
namespace Rows
def none {H : Type} : Left H := { results := [], args := [] }

/-- 'carabinerlaw20.FlowNotes': WHATEVER THE INPUT: true; the input reads as it did. -/
def flowNotesSpec : ChangeSpec := { name := "flowNotes", fn := fun _ => fun
  | [d1, d2, d3] => { results := [.lit (.bool true)], args := [d1, d2, d3] }
  | _ => none }
def flowNotesRow : OpenClaim := { program := "ytoknpcohhnlncaa", sum := "ca116b400c3f41e550c3899a5d9648f7adca6888cd1630afa5ca4e54571c0415", func := "carabiner/carabinerlaw20.FlowNotes", spec := "flowNotes", unfollowed := true, recurses := true, apart := false }
def FlowNotesSaid : Prop := flowNotesRow.holds Try.pinned (OpenSpec.ofChange flowNotesSpec)

/-- ITS FALSE NEIGHBOUR: 'it returns false'. Refute it at one input. -/
def flowNotesWrong : ChangeSpec := { name := "flowNotes", fn := fun _ => fun
  | [d1, d2, d3] => { results := [.lit (.bool false)], args := [d1, d2, d3] }
  | _ => none }
def FlowNotesWrongFalsely : Prop := flowNotesRow.holds Try.pinned (OpenSpec.ofChange flowNotesWrong)

/-- 'carabinerlaw20.FlowFixed': WHATEVER THE INPUT: true; the input reads as it did. -/
def flowFixedSpec : ChangeSpec := { name := "flowFixed", fn := fun _ => fun
  | [d1, d2, d3] => { results := [.lit (.bool true)], args := [d1, d2, d3] }
  | _ => none }
def flowFixedRow : OpenClaim := { program := "ytoknpcohhnlncaa", sum := "ca116b400c3f41e550c3899a5d9648f7adca6888cd1630afa5ca4e54571c0415", func := "carabiner/carabinerlaw20.FlowFixed", spec := "flowFixed", unfollowed := true, recurses := true, apart := false }
def FlowFixedSaid : Prop := flowFixedRow.holds Try.pinned (OpenSpec.ofChange flowFixedSpec)

/-- ITS FALSE NEIGHBOUR: 'it returns false'. Refute it at one input. -/
def flowFixedWrong : ChangeSpec := { name := "flowFixed", fn := fun _ => fun
  | [d1, d2, d3] => { results := [.lit (.bool false)], args := [d1, d2, d3] }
  | _ => none }
def FlowFixedWrongFalsely : Prop := flowFixedRow.holds Try.pinned (OpenSpec.ofChange flowFixedWrong)

/-- 'carabinerlaw20.FlowRuns': WHATEVER THE INPUT: true; the input reads as it did. -/
def flowRunsSpec : ChangeSpec := { name := "flowRuns", fn := fun _ => fun
  | [d1, d2] => { results := [.lit (.bool true)], args := [d1, d2] }
  | _ => none }
def flowRunsRow : OpenClaim := { program := "ytoknpcohhnlncaa", sum := "ca116b400c3f41e550c3899a5d9648f7adca6888cd1630afa5ca4e54571c0415", func := "carabiner/carabinerlaw20.FlowRuns", spec := "flowRuns", unfollowed := true, recurses := true, apart := false }
def FlowRunsSaid : Prop := flowRunsRow.holds Try.pinned (OpenSpec.ofChange flowRunsSpec)

/-- ITS FALSE NEIGHBOUR: 'it returns false'. Refute it at one input. -/
def flowRunsWrong : ChangeSpec := { name := "flowRuns", fn := fun _ => fun
  | [d1, d2] => { results := [.lit (.bool false)], args := [d1, d2] }
  | _ => none }
def FlowRunsWrongFalsely : Prop := flowRunsRow.holds Try.pinned (OpenSpec.ofChange flowRunsWrong)

/-- 'carabinerlaw20.FlowParts': WHATEVER THE INPUT: true; the input reads as it did. -/
def flowPartsSpec : ChangeSpec := { name := "flowParts", fn := fun _ => fun
  | [d1, d2, d3] => { results := [.lit (.bool true)], args := [d1, d2, d3] }
  | _ => none }
def flowPartsRow : OpenClaim := { program := "ytoknpcohhnlncaa", sum := "ca116b400c3f41e550c3899a5d9648f7adca6888cd1630afa5ca4e54571c0415", func := "carabiner/carabinerlaw20.FlowParts", spec := "flowParts", unfollowed := true, recurses := true, apart := false }
def FlowPartsSaid : Prop := flowPartsRow.holds Try.pinned (OpenSpec.ofChange flowPartsSpec)

/-- ITS FALSE NEIGHBOUR: 'it returns false'. Refute it at one input. -/
def flowPartsWrong : ChangeSpec := { name := "flowParts", fn := fun _ => fun
  | [d1, d2, d3] => { results := [.lit (.bool false)], args := [d1, d2, d3] }
  | _ => none }
def FlowPartsWrongFalsely : Prop := flowPartsRow.holds Try.pinned (OpenSpec.ofChange flowPartsWrong)

/- THE SECOND FORM. 'bulk': how many values and letters a reading holds, each counted each time it is reached (what is shared counts as often as it is met; a slice's spare places count too). A statement '..UptoSaid' is the law's where the arguments, and the package variables that the reading takes, are together of bulk at most 1048576: NARROWER than '..Said'. Prove '..Said' where nothing that the law and all that it calls make is longer than what came in: it says more and counts as full. Else prove '..UptoSaid'. A law counts once. -/
mutual
def uptoBulk {H : Type} : DataW H → Nat
  | .lit (.string bytes) => bytes.length + 1
  | .lit _ => 1
  | .nil => 1
  | .ptr d => uptoBulk d + 1
  | .slice elems spare => uptoBulkAll elems + uptoBulkAll spare + 1
  | .agg parts => uptoBulkAll parts + 1
  | .iface _ d => uptoBulk d + 1
  | .map entries => uptoBulkEntries entries + 1
  | .held _ => 1
def uptoBulkAll {H : Type} : List (DataW H) → Nat
  | [] => 0
  | d :: r => uptoBulk d + uptoBulkAll r
def uptoBulkEntries {H : Type} : List (Lit × DataW H) → Nat
  | [] => 0
  | x :: r => uptoBulkEntry x + uptoBulkEntries r
def uptoBulkEntry {H : Type} : Lit × DataW H → Nat
  | (.string bytes, d) => bytes.length + uptoBulk d + 1
  | (_, d) => uptoBulk d + 1
 end
def uptoSmall : (H : Type) → List (DataW H) → Bool := fun _ ds => decide (uptoBulkAll ds ≤ 1048576)
def OpenSpec.upto (s : _root_.Go.ChangeSpec) : _root_.Go.OpenSpec := { _root_.Go.OpenSpec.ofChange s with cond := some uptoSmall }

/-- 'carabinerlaw20.FlowNotes', WHERE WHAT IT READS IS OF BULK AT MOST 1048576: true; the input reads as it did. -/
def flowNotesUptoRow : OpenClaim := { program := "ytoknpcohhnlncaa", sum := "ca116b400c3f41e550c3899a5d9648f7adca6888cd1630afa5ca4e54571c0415", func := "carabiner/carabinerlaw20.FlowNotes", spec := "flowNotes", unfollowed := true, recurses := true, apart := false, narrowed := true }
def FlowNotesUptoSaid : Prop := flowNotesUptoRow.holds Try.pinned (OpenSpec.upto flowNotesSpec)

/-- 'carabinerlaw20.FlowFixed', WHERE WHAT IT READS IS OF BULK AT MOST 1048576: true; the input reads as it did. -/
def flowFixedUptoRow : OpenClaim := { program := "ytoknpcohhnlncaa", sum := "ca116b400c3f41e550c3899a5d9648f7adca6888cd1630afa5ca4e54571c0415", func := "carabiner/carabinerlaw20.FlowFixed", spec := "flowFixed", unfollowed := true, recurses := true, apart := false, narrowed := true }
def FlowFixedUptoSaid : Prop := flowFixedUptoRow.holds Try.pinned (OpenSpec.upto flowFixedSpec)

/-- 'carabinerlaw20.FlowRuns', WHERE WHAT IT READS IS OF BULK AT MOST 1048576: true; the input reads as it did. -/
def flowRunsUptoRow : OpenClaim := { program := "ytoknpcohhnlncaa", sum := "ca116b400c3f41e550c3899a5d9648f7adca6888cd1630afa5ca4e54571c0415", func := "carabiner/carabinerlaw20.FlowRuns", spec := "flowRuns", unfollowed := true, recurses := true, apart := false, narrowed := true }
def FlowRunsUptoSaid : Prop := flowRunsUptoRow.holds Try.pinned (OpenSpec.upto flowRunsSpec)

/-- 'carabinerlaw20.FlowParts', WHERE WHAT IT READS IS OF BULK AT MOST 1048576: true; the input reads as it did. -/
def flowPartsUptoRow : OpenClaim := { program := "ytoknpcohhnlncaa", sum := "ca116b400c3f41e550c3899a5d9648f7adca6888cd1630afa5ca4e54571c0415", func := "carabiner/carabinerlaw20.FlowParts", spec := "flowParts", unfollowed := true, recurses := true, apart := false, narrowed := true }
def FlowPartsUptoSaid : Prop := flowPartsUptoRow.holds Try.pinned (OpenSpec.upto flowPartsSpec)

end Rows
end Go.Proofs.Ytoknpcohhnlncaa
