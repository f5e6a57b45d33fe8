/-
  No cell of these rows narrows 'for every input' (looked for: loops, veiled, ifaces, maps, wideKeys, modest, calm, conditions, laid).
  DERIVED. THE GIVEN ROWS OF THIS SEAT. 5 by the template 'for every input the law returns true; each argument reads behind the call as it read before'; 0 by the template 'total and deterministic' (their statements: YtpcocmdhdnfjcaaTotals.lean).
  GIVEN WITH THE SEED: the statements are not yours to turn. If you find one false, say at which input.
  Laid BY PROGRAM, IN A SANDBOX (cutbox-rows.mjs): the forced cells as the released guide's own fill.sh prints them over the translation 98baf1657283e3ad… (all of the seat's roots in one cut). By AI agents, Wed Nov 11 2026. No macro, syntax, notation, axiom, sorry.
-/
import Derived.Test.YtpcocmdhdnfjcaaChecked
import GoSem.Claim
import GoSem.ClaimJoined
import GoSem.ClaimMapViews
import Derived.JoinedTies
import Derived.KernelRfl
namespace Go.Proofs.Ytpcocmdhdnfjcaa
/- THE CELL 'sum', in the pinned program and in every row, IS THE sha256 OF THE DUMP (.gsa) THAT YtpcocmdhdnfjcaaProg.lean LOADS. Nothing in Lean hashes anything: it is a label: what it is worth is what the hold of that sum in a sandbox is worth. -/
noncomputable def Try.pinned : Pinned := { name := "ytpcocmdhdnfjcaa", sum := "98baf1657283e3addbeb678624ec41bb7e363047026c4a807d7f9c2b6c6bda26", checked := Try.checked }
namespace Rows
def none {H : Type} : Left H := { results := [], args := [] }

/-- 'carabinerlaw17.IndexGone': WHATEVER THE INPUT: true; the input reads as it did. -/
def indexGoneSpec : ChangeSpec := { name := "indexGone", fn := fun _ => fun
  | [d1, d2] => { results := [.lit (.bool true)], args := [d1, d2] }
  | _ => none }
def indexGoneRow : OpenClaim := { program := "ytpcocmdhdnfjcaa", sum := "98baf1657283e3addbeb678624ec41bb7e363047026c4a807d7f9c2b6c6bda26", func := "carabiner/carabinerlaw17.IndexGone", spec := "indexGone", unfollowed := true, recurses := true, plainKeys := false, apart := false }
def IndexGoneSaid : Prop := indexGoneRow.holds Try.pinned (OpenSpec.ofChange indexGoneSpec)

/-- ITS FALSE NEIGHBOUR: 'it returns false'. Refute it at one input. -/
def indexGoneWrong : ChangeSpec := { name := "indexGone", fn := fun _ => fun
  | [d1, d2] => { results := [.lit (.bool false)], args := [d1, d2] }
  | _ => none }
def IndexGoneWrongFalsely : Prop := indexGoneRow.holds Try.pinned (OpenSpec.ofChange indexGoneWrong)

/-- 'carabinerlaw17.IndexTags': WHATEVER THE INPUT: true; the input reads as it did. -/
def indexTagsSpec : ChangeSpec := { name := "indexTags", fn := fun _ => fun
  | [d1, d2] => { results := [.lit (.bool true)], args := [d1, d2] }
  | _ => none }
def indexTagsRow : OpenClaim := { program := "ytpcocmdhdnfjcaa", sum := "98baf1657283e3addbeb678624ec41bb7e363047026c4a807d7f9c2b6c6bda26", func := "carabiner/carabinerlaw17.IndexTags", spec := "indexTags", unfollowed := true, recurses := true, plainKeys := false, apart := false }
def IndexTagsSaid : Prop := indexTagsRow.holds Try.pinned (OpenSpec.ofChange indexTagsSpec)

/-- ITS FALSE NEIGHBOUR: 'it returns false'. Refute it at one input. -/
def indexTagsWrong : ChangeSpec := { name := "indexTags", fn := fun _ => fun
  | [d1, d2] => { results := [.lit (.bool false)], args := [d1, d2] }
  | _ => none }
def IndexTagsWrongFalsely : Prop := indexTagsRow.holds Try.pinned (OpenSpec.ofChange indexTagsWrong)

/-- 'carabinerlaw17.IndexIds': WHATEVER THE INPUT: true; the input reads as it did. -/
def indexIdsSpec : ChangeSpec := { name := "indexIds", fn := fun _ => fun
  | [d1, d2] => { results := [.lit (.bool true)], args := [d1, d2] }
  | _ => none }
def indexIdsRow : OpenClaim := { program := "ytpcocmdhdnfjcaa", sum := "98baf1657283e3addbeb678624ec41bb7e363047026c4a807d7f9c2b6c6bda26", func := "carabiner/carabinerlaw17.IndexIds", spec := "indexIds", unfollowed := true, recurses := true, plainKeys := false, apart := false }
def IndexIdsSaid : Prop := indexIdsRow.holds Try.pinned (OpenSpec.ofChange indexIdsSpec)

/-- ITS FALSE NEIGHBOUR: 'it returns false'. Refute it at one input. -/
def indexIdsWrong : ChangeSpec := { name := "indexIds", fn := fun _ => fun
  | [d1, d2] => { results := [.lit (.bool false)], args := [d1, d2] }
  | _ => none }
def IndexIdsWrongFalsely : Prop := indexIdsRow.holds Try.pinned (OpenSpec.ofChange indexIdsWrong)

/-- 'carabinerlaw17.IndexWalks': WHATEVER THE INPUT: true; the input reads as it did. -/
def indexWalksSpec : ChangeSpec := { name := "indexWalks", fn := fun _ => fun
  | [d1, d2] => { results := [.lit (.bool true)], args := [d1, d2] }
  | _ => none }
def indexWalksRow : OpenClaim := { program := "ytpcocmdhdnfjcaa", sum := "98baf1657283e3addbeb678624ec41bb7e363047026c4a807d7f9c2b6c6bda26", func := "carabiner/carabinerlaw17.IndexWalks", spec := "indexWalks", unfollowed := true, recurses := true, plainKeys := false, apart := false }
def IndexWalksSaid : Prop := indexWalksRow.holds Try.pinned (OpenSpec.ofChange indexWalksSpec)

/-- ITS FALSE NEIGHBOUR: 'it returns false'. Refute it at one input. -/
def indexWalksWrong : ChangeSpec := { name := "indexWalks", fn := fun _ => fun
  | [d1, d2] => { results := [.lit (.bool false)], args := [d1, d2] }
  | _ => none }
def IndexWalksWrongFalsely : Prop := indexWalksRow.holds Try.pinned (OpenSpec.ofChange indexWalksWrong)

/-- 'carabinerlaw17.IndexAll': WHATEVER THE INPUT: true; the input reads as it did. -/
def indexAllSpec : ChangeSpec := { name := "indexAll", fn := fun _ => fun
  | [d1, d2, d3] => { results := [.lit (.bool true)], args := [d1, d2, d3] }
  | _ => none }
def indexAllRow : OpenClaim := { program := "ytpcocmdhdnfjcaa", sum := "98baf1657283e3addbeb678624ec41bb7e363047026c4a807d7f9c2b6c6bda26", func := "carabiner/carabinerlaw17.IndexAll", spec := "indexAll", unfollowed := true, recurses := true, plainKeys := false, apart := false }
def IndexAllSaid : Prop := indexAllRow.holds Try.pinned (OpenSpec.ofChange indexAllSpec)

/-- ITS FALSE NEIGHBOUR: 'it returns false'. Refute it at one input. -/
def indexAllWrong : ChangeSpec := { name := "indexAll", fn := fun _ => fun
  | [d1, d2, d3] => { results := [.lit (.bool false)], args := [d1, d2, d3] }
  | _ => none }
def IndexAllWrongFalsely : Prop := indexAllRow.holds Try.pinned (OpenSpec.ofChange indexAllWrong)

/- THE SECOND FORM. 'bulk': how many values and letters a reading holds, each counted each time it is reached (what is shared counts as often as it is met; a slice's spare places count too). A statement '..UptoSaid' is the law's where the arguments, and the package variables that the reading takes, are together of bulk at most 1048576: NARROWER than '..Said'. Prove '..Said' where nothing that the law and all that it calls make is longer than what came in: it says more and counts as full. Else prove '..UptoSaid'. A law counts once. -/
mutual
def uptoBulk {H : Type} : DataW H → Nat
  | .lit (.string bytes) => bytes.length + 1
  | .lit _ => 1
  | .nil => 1
  | .ptr d => uptoBulk d + 1
  | .slice elems spare => uptoBulkAll elems + uptoBulkAll spare + 1
  | .agg parts => uptoBulkAll parts + 1
  | .iface _ d => uptoBulk d + 1
  | .map entries => uptoBulkEntries entries + 1
  | .held _ => 1
def uptoBulkAll {H : Type} : List (DataW H) → Nat
  | [] => 0
  | d :: r => uptoBulk d + uptoBulkAll r
def uptoBulkEntries {H : Type} : List (Lit × DataW H) → Nat
  | [] => 0
  | x :: r => uptoBulkEntry x + uptoBulkEntries r
def uptoBulkEntry {H : Type} : Lit × DataW H → Nat
  | (.string bytes, d) => bytes.length + uptoBulk d + 1
  | (_, d) => uptoBulk d + 1
 end
def uptoSmall : (H : Type) → List (DataW H) → Bool := fun _ ds => decide (uptoBulkAll ds ≤ 1048576)
def OpenSpec.upto (s : _root_.Go.ChangeSpec) : _root_.Go.OpenSpec := { _root_.Go.OpenSpec.ofChange s with cond := some uptoSmall }

/-- 'carabinerlaw17.IndexGone', WHERE WHAT IT READS IS OF BULK AT MOST 1048576: true; the input reads as it did. -/
def indexGoneUptoRow : OpenClaim := { program := "ytpcocmdhdnfjcaa", sum := "98baf1657283e3addbeb678624ec41bb7e363047026c4a807d7f9c2b6c6bda26", func := "carabiner/carabinerlaw17.IndexGone", spec := "indexGone", unfollowed := true, recurses := true, plainKeys := false, apart := false, narrowed := true }
def IndexGoneUptoSaid : Prop := indexGoneUptoRow.holds Try.pinned (OpenSpec.upto indexGoneSpec)

/-- 'carabinerlaw17.IndexTags', WHERE WHAT IT READS IS OF BULK AT MOST 1048576: true; the input reads as it did. -/
def indexTagsUptoRow : OpenClaim := { program := "ytpcocmdhdnfjcaa", sum := "98baf1657283e3addbeb678624ec41bb7e363047026c4a807d7f9c2b6c6bda26", func := "carabiner/carabinerlaw17.IndexTags", spec := "indexTags", unfollowed := true, recurses := true, plainKeys := false, apart := false, narrowed := true }
def IndexTagsUptoSaid : Prop := indexTagsUptoRow.holds Try.pinned (OpenSpec.upto indexTagsSpec)

/-- 'carabinerlaw17.IndexIds', WHERE WHAT IT READS IS OF BULK AT MOST 1048576: true; the input reads as it did. -/
def indexIdsUptoRow : OpenClaim := { program := "ytpcocmdhdnfjcaa", sum := "98baf1657283e3addbeb678624ec41bb7e363047026c4a807d7f9c2b6c6bda26", func := "carabiner/carabinerlaw17.IndexIds", spec := "indexIds", unfollowed := true, recurses := true, plainKeys := false, apart := false, narrowed := true }
def IndexIdsUptoSaid : Prop := indexIdsUptoRow.holds Try.pinned (OpenSpec.upto indexIdsSpec)

/-- 'carabinerlaw17.IndexWalks', WHERE WHAT IT READS IS OF BULK AT MOST 1048576: true; the input reads as it did. -/
def indexWalksUptoRow : OpenClaim := { program := "ytpcocmdhdnfjcaa", sum := "98baf1657283e3addbeb678624ec41bb7e363047026c4a807d7f9c2b6c6bda26", func := "carabiner/carabinerlaw17.IndexWalks", spec := "indexWalks", unfollowed := true, recurses := true, plainKeys := false, apart := false, narrowed := true }
def IndexWalksUptoSaid : Prop := indexWalksUptoRow.holds Try.pinned (OpenSpec.upto indexWalksSpec)

/-- 'carabinerlaw17.IndexAll', WHERE WHAT IT READS IS OF BULK AT MOST 1048576: true; the input reads as it did. -/
def indexAllUptoRow : OpenClaim := { program := "ytpcocmdhdnfjcaa", sum := "98baf1657283e3addbeb678624ec41bb7e363047026c4a807d7f9c2b6c6bda26", func := "carabiner/carabinerlaw17.IndexAll", spec := "indexAll", unfollowed := true, recurses := true, plainKeys := false, apart := false, narrowed := true }
def IndexAllUptoSaid : Prop := indexAllUptoRow.holds Try.pinned (OpenSpec.upto indexAllSpec)

end Rows
end Go.Proofs.Ytpcocmdhdnfjcaa
