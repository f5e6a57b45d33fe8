/-
  No cell of these rows narrows 'for every input' (looked for: loops, veiled, ifaces, maps, wideKeys, modest, calm, conditions, laid).
  DERIVED. THE GIVEN ROWS OF THIS SEAT. 6 by the template 'for every input the law returns true; each argument reads behind the call as it read before'; 0 by the template 'total and deterministic' (their statements: YthknfikjanoflaaTotals.lean).
  GIVEN WITH THE SEED: the statements are not yours to turn. If you find one false, say at which input.
  Laid BY PROGRAM, IN A SANDBOX (cutbox-rows.mjs): the forced cells as the released guide's own fill.sh prints them over the translation 5ca0489477c9b5c0… (all of the seat's roots in one cut). By AI agents, Wed Nov 11 2026. No macro, syntax, notation, axiom, sorry.
-/
import Derived.Test.YthknfikjanoflaaChecked
import GoSem.Claim
import GoSem.ClaimJoined
import GoSem.ClaimMapViews
import Derived.JoinedTies
import Derived.KernelRfl
namespace Go.Proofs.Ythknfikjanoflaa
/- THE CELL 'sum', in the pinned program and in every row, IS THE sha256 OF THE DUMP (.gsa) THAT YthknfikjanoflaaProg.lean LOADS. Nothing in Lean hashes anything: it is a label: what it is worth is what the hold of that sum in a sandbox is worth. -/
noncomputable def Try.pinned : Pinned := { name := "ythknfikjanoflaa", sum := "5ca0489477c9b5c0d6241fe1b4cbcffe49801f2c39a8667a1f3bff2dc9762f03", checked := Try.checked }
namespace Rows
def none {H : Type} : Left H := { results := [], args := [] }

/-- 'carabinerlaw21.QueueData': WHATEVER THE INPUT: true; the input reads as it did. -/
def queueDataSpec : ChangeSpec := { name := "queueData", fn := fun _ => fun
  | [d1, d2, d3] => { results := [.lit (.bool true)], args := [d1, d2, d3] }
  | _ => none }
def queueDataRow : OpenClaim := { program := "ythknfikjanoflaa", sum := "5ca0489477c9b5c0d6241fe1b4cbcffe49801f2c39a8667a1f3bff2dc9762f03", func := "carabiner/carabinerlaw21.QueueData", spec := "queueData", unfollowed := true, recurses := true, apart := false }
def QueueDataSaid : Prop := queueDataRow.holds Try.pinned (OpenSpec.ofChange queueDataSpec)

/-- ITS FALSE NEIGHBOUR: 'it returns false'. Refute it at one input. -/
def queueDataWrong : ChangeSpec := { name := "queueData", fn := fun _ => fun
  | [d1, d2, d3] => { results := [.lit (.bool false)], args := [d1, d2, d3] }
  | _ => none }
def QueueDataWrongFalsely : Prop := queueDataRow.holds Try.pinned (OpenSpec.ofChange queueDataWrong)

/-- 'carabinerlaw21.QueueOnce': WHATEVER THE INPUT: true; the input reads as it did. -/
def queueOnceSpec : ChangeSpec := { name := "queueOnce", fn := fun _ => fun
  | [d] => { results := [.lit (.bool true)], args := [d] }
  | _ => none }
def queueOnceRow : OpenClaim := { program := "ythknfikjanoflaa", sum := "5ca0489477c9b5c0d6241fe1b4cbcffe49801f2c39a8667a1f3bff2dc9762f03", func := "carabiner/carabinerlaw21.QueueOnce", spec := "queueOnce", unfollowed := true, recurses := true, apart := false }
def QueueOnceSaid : Prop := queueOnceRow.holds Try.pinned (OpenSpec.ofChange queueOnceSpec)

/-- ITS FALSE NEIGHBOUR: 'it returns false'. Refute it at one input. -/
def queueOnceWrong : ChangeSpec := { name := "queueOnce", fn := fun _ => fun
  | [d] => { results := [.lit (.bool false)], args := [d] }
  | _ => none }
def QueueOnceWrongFalsely : Prop := queueOnceRow.holds Try.pinned (OpenSpec.ofChange queueOnceWrong)

/-- 'carabinerlaw21.QueueTrims': WHATEVER THE INPUT: true; the input reads as it did. -/
def queueTrimsSpec : ChangeSpec := { name := "queueTrims", fn := fun _ => fun
  | [d1, d2] => { results := [.lit (.bool true)], args := [d1, d2] }
  | _ => none }
def queueTrimsRow : OpenClaim := { program := "ythknfikjanoflaa", sum := "5ca0489477c9b5c0d6241fe1b4cbcffe49801f2c39a8667a1f3bff2dc9762f03", func := "carabiner/carabinerlaw21.QueueTrims", spec := "queueTrims", unfollowed := true, recurses := true, apart := false }
def QueueTrimsSaid : Prop := queueTrimsRow.holds Try.pinned (OpenSpec.ofChange queueTrimsSpec)

/-- ITS FALSE NEIGHBOUR: 'it returns false'. Refute it at one input. -/
def queueTrimsWrong : ChangeSpec := { name := "queueTrims", fn := fun _ => fun
  | [d1, d2] => { results := [.lit (.bool false)], args := [d1, d2] }
  | _ => none }
def QueueTrimsWrongFalsely : Prop := queueTrimsRow.holds Try.pinned (OpenSpec.ofChange queueTrimsWrong)

/-- 'carabinerlaw21.QueueNone': WHATEVER THE INPUT: true; the input reads as it did. -/
def queueNoneSpec : ChangeSpec := { name := "queueNone", fn := fun _ => fun
  | [d1, d2] => { results := [.lit (.bool true)], args := [d1, d2] }
  | _ => none }
def queueNoneRow : OpenClaim := { program := "ythknfikjanoflaa", sum := "5ca0489477c9b5c0d6241fe1b4cbcffe49801f2c39a8667a1f3bff2dc9762f03", func := "carabiner/carabinerlaw21.QueueNone", spec := "queueNone", unfollowed := true, recurses := true, apart := false }
def QueueNoneSaid : Prop := queueNoneRow.holds Try.pinned (OpenSpec.ofChange queueNoneSpec)

/-- ITS FALSE NEIGHBOUR: 'it returns false'. Refute it at one input. -/
def queueNoneWrong : ChangeSpec := { name := "queueNone", fn := fun _ => fun
  | [d1, d2] => { results := [.lit (.bool false)], args := [d1, d2] }
  | _ => none }
def QueueNoneWrongFalsely : Prop := queueNoneRow.holds Try.pinned (OpenSpec.ofChange queueNoneWrong)

/-- 'carabinerlaw21.QueueTwice': WHATEVER THE INPUT: true; the input reads as it did. -/
def queueTwiceSpec : ChangeSpec := { name := "queueTwice", fn := fun _ => fun
  | [d] => { results := [.lit (.bool true)], args := [d] }
  | _ => none }
def queueTwiceRow : OpenClaim := { program := "ythknfikjanoflaa", sum := "5ca0489477c9b5c0d6241fe1b4cbcffe49801f2c39a8667a1f3bff2dc9762f03", func := "carabiner/carabinerlaw21.QueueTwice", spec := "queueTwice", unfollowed := true, recurses := true, apart := false }
def QueueTwiceSaid : Prop := queueTwiceRow.holds Try.pinned (OpenSpec.ofChange queueTwiceSpec)

/-- ITS FALSE NEIGHBOUR: 'it returns false'. Refute it at one input. -/
def queueTwiceWrong : ChangeSpec := { name := "queueTwice", fn := fun _ => fun
  | [d] => { results := [.lit (.bool false)], args := [d] }
  | _ => none }
def QueueTwiceWrongFalsely : Prop := queueTwiceRow.holds Try.pinned (OpenSpec.ofChange queueTwiceWrong)

/-- 'carabinerlaw21.QueueFolds': WHATEVER THE INPUT: true; the input reads as it did. -/
def queueFoldsSpec : ChangeSpec := { name := "queueFolds", fn := fun _ => fun
  | [d1, d2] => { results := [.lit (.bool true)], args := [d1, d2] }
  | _ => none }
def queueFoldsRow : OpenClaim := { program := "ythknfikjanoflaa", sum := "5ca0489477c9b5c0d6241fe1b4cbcffe49801f2c39a8667a1f3bff2dc9762f03", func := "carabiner/carabinerlaw21.QueueFolds", spec := "queueFolds", unfollowed := true, recurses := true, apart := false }
def QueueFoldsSaid : Prop := queueFoldsRow.holds Try.pinned (OpenSpec.ofChange queueFoldsSpec)

/-- ITS FALSE NEIGHBOUR: 'it returns false'. Refute it at one input. -/
def queueFoldsWrong : ChangeSpec := { name := "queueFolds", fn := fun _ => fun
  | [d1, d2] => { results := [.lit (.bool false)], args := [d1, d2] }
  | _ => none }
def QueueFoldsWrongFalsely : Prop := queueFoldsRow.holds Try.pinned (OpenSpec.ofChange queueFoldsWrong)

/- THE SECOND FORM. 'bulk': how many values and letters a reading holds, each counted each time it is reached (what is shared counts as often as it is met; a slice's spare places count too). A statement '..UptoSaid' is the law's where the arguments, and the package variables that the reading takes, are together of bulk at most 1048576: NARROWER than '..Said'. Prove '..Said' where nothing that the law and all that it calls make is longer than what came in: it says more and counts as full. Else prove '..UptoSaid'. A law counts once. -/
mutual
def uptoBulk {H : Type} : DataW H → Nat
  | .lit (.string bytes) => bytes.length + 1
  | .lit _ => 1
  | .nil => 1
  | .ptr d => uptoBulk d + 1
  | .slice elems spare => uptoBulkAll elems + uptoBulkAll spare + 1
  | .agg parts => uptoBulkAll parts + 1
  | .iface _ d => uptoBulk d + 1
  | .map entries => uptoBulkEntries entries + 1
  | .held _ => 1
def uptoBulkAll {H : Type} : List (DataW H) → Nat
  | [] => 0
  | d :: r => uptoBulk d + uptoBulkAll r
def uptoBulkEntries {H : Type} : List (Lit × DataW H) → Nat
  | [] => 0
  | x :: r => uptoBulkEntry x + uptoBulkEntries r
def uptoBulkEntry {H : Type} : Lit × DataW H → Nat
  | (.string bytes, d) => bytes.length + uptoBulk d + 1
  | (_, d) => uptoBulk d + 1
 end
def uptoSmall : (H : Type) → List (DataW H) → Bool := fun _ ds => decide (uptoBulkAll ds ≤ 1048576)
def OpenSpec.upto (s : _root_.Go.ChangeSpec) : _root_.Go.OpenSpec := { _root_.Go.OpenSpec.ofChange s with cond := some uptoSmall }

/-- 'carabinerlaw21.QueueData', WHERE WHAT IT READS IS OF BULK AT MOST 1048576: true; the input reads as it did. -/
def queueDataUptoRow : OpenClaim := { program := "ythknfikjanoflaa", sum := "5ca0489477c9b5c0d6241fe1b4cbcffe49801f2c39a8667a1f3bff2dc9762f03", func := "carabiner/carabinerlaw21.QueueData", spec := "queueData", unfollowed := true, recurses := true, apart := false, narrowed := true }
def QueueDataUptoSaid : Prop := queueDataUptoRow.holds Try.pinned (OpenSpec.upto queueDataSpec)

/-- 'carabinerlaw21.QueueOnce', WHERE WHAT IT READS IS OF BULK AT MOST 1048576: true; the input reads as it did. -/
def queueOnceUptoRow : OpenClaim := { program := "ythknfikjanoflaa", sum := "5ca0489477c9b5c0d6241fe1b4cbcffe49801f2c39a8667a1f3bff2dc9762f03", func := "carabiner/carabinerlaw21.QueueOnce", spec := "queueOnce", unfollowed := true, recurses := true, apart := false, narrowed := true }
def QueueOnceUptoSaid : Prop := queueOnceUptoRow.holds Try.pinned (OpenSpec.upto queueOnceSpec)

/-- 'carabinerlaw21.QueueTrims', WHERE WHAT IT READS IS OF BULK AT MOST 1048576: true; the input reads as it did. -/
def queueTrimsUptoRow : OpenClaim := { program := "ythknfikjanoflaa", sum := "5ca0489477c9b5c0d6241fe1b4cbcffe49801f2c39a8667a1f3bff2dc9762f03", func := "carabiner/carabinerlaw21.QueueTrims", spec := "queueTrims", unfollowed := true, recurses := true, apart := false, narrowed := true }
def QueueTrimsUptoSaid : Prop := queueTrimsUptoRow.holds Try.pinned (OpenSpec.upto queueTrimsSpec)

/-- 'carabinerlaw21.QueueNone', WHERE WHAT IT READS IS OF BULK AT MOST 1048576: true; the input reads as it did. -/
def queueNoneUptoRow : OpenClaim := { program := "ythknfikjanoflaa", sum := "5ca0489477c9b5c0d6241fe1b4cbcffe49801f2c39a8667a1f3bff2dc9762f03", func := "carabiner/carabinerlaw21.QueueNone", spec := "queueNone", unfollowed := true, recurses := true, apart := false, narrowed := true }
def QueueNoneUptoSaid : Prop := queueNoneUptoRow.holds Try.pinned (OpenSpec.upto queueNoneSpec)

/-- 'carabinerlaw21.QueueTwice', WHERE WHAT IT READS IS OF BULK AT MOST 1048576: true; the input reads as it did. -/
def queueTwiceUptoRow : OpenClaim := { program := "ythknfikjanoflaa", sum := "5ca0489477c9b5c0d6241fe1b4cbcffe49801f2c39a8667a1f3bff2dc9762f03", func := "carabiner/carabinerlaw21.QueueTwice", spec := "queueTwice", unfollowed := true, recurses := true, apart := false, narrowed := true }
def QueueTwiceUptoSaid : Prop := queueTwiceUptoRow.holds Try.pinned (OpenSpec.upto queueTwiceSpec)

/-- 'carabinerlaw21.QueueFolds', WHERE WHAT IT READS IS OF BULK AT MOST 1048576: true; the input reads as it did. -/
def queueFoldsUptoRow : OpenClaim := { program := "ythknfikjanoflaa", sum := "5ca0489477c9b5c0d6241fe1b4cbcffe49801f2c39a8667a1f3bff2dc9762f03", func := "carabiner/carabinerlaw21.QueueFolds", spec := "queueFolds", unfollowed := true, recurses := true, apart := false, narrowed := true }
def QueueFoldsUptoSaid : Prop := queueFoldsUptoRow.holds Try.pinned (OpenSpec.upto queueFoldsSpec)

end Rows
end Go.Proofs.Ythknfikjanoflaa
