/-
  No cell of these rows narrows 'for every input' (looked for: loops, veiled, ifaces, maps, wideKeys, modest, calm, conditions, laid).
  DERIVED. THE GIVEN ROWS OF THIS SEAT. 5 by the template 'for every input the law returns true; each argument reads behind the call as it read before'; 0 by the template 'total and deterministic' (their statements: YtpdibjaeopcimaaTotals.lean).
  GIVEN WITH THE SEED: the statements are not yours to turn. If you find one false, say at which input.
  Laid BY PROGRAM, IN A SANDBOX (cutbox-rows.mjs): the forced cells as the released guide's own fill.sh prints them over the translation b3c8027439486809… (all of the seat's roots in one cut). By AI agents, Wed Nov 11 2026. No macro, syntax, notation, axiom, sorry.
-/
import Derived.Test.YtpdibjaeopcimaaChecked
import GoSem.Claim
import GoSem.ClaimJoined
import GoSem.ClaimMapViews
import Derived.JoinedTies
import Derived.KernelRfl
namespace Go.Proofs.Ytpdibjaeopcimaa
/- THE CELL 'sum', in the pinned program and in every row, IS THE sha256 OF THE DUMP (.gsa) THAT YtpdibjaeopcimaaProg.lean LOADS. Nothing in Lean hashes anything: it is a label: what it is worth is what the hold of that sum in a sandbox is worth. -/
noncomputable def Try.pinned : Pinned := { name := "ytpdibjaeopcimaa", sum := "b3c8027439486809ae56f1c81a142357a539e714479b00bf38d00b644226c902", checked := Try.checked }
namespace Rows
def none {H : Type} : Left H := { results := [], args := [] }

/-- 'carabinerlaw19.BookOnce': WHATEVER THE INPUT: true; the input reads as it did. -/
def bookOnceSpec : ChangeSpec := { name := "bookOnce", fn := fun _ => fun
  | [d1, d2, d3] => { results := [.lit (.bool true)], args := [d1, d2, d3] }
  | _ => none }
def bookOnceRow : OpenClaim := { program := "ytpdibjaeopcimaa", sum := "b3c8027439486809ae56f1c81a142357a539e714479b00bf38d00b644226c902", func := "carabiner/carabinerlaw19.BookOnce", spec := "bookOnce", unfollowed := true, recurses := true, plainKeys := false, apart := false }
def BookOnceSaid : Prop := bookOnceRow.holds Try.pinned (OpenSpec.ofChange bookOnceSpec)

/-- ITS FALSE NEIGHBOUR: 'it returns false'. Refute it at one input. -/
def bookOnceWrong : ChangeSpec := { name := "bookOnce", fn := fun _ => fun
  | [d1, d2, d3] => { results := [.lit (.bool false)], args := [d1, d2, d3] }
  | _ => none }
def BookOnceWrongFalsely : Prop := bookOnceRow.holds Try.pinned (OpenSpec.ofChange bookOnceWrong)

/-- 'carabinerlaw19.BookReads': WHATEVER THE INPUT: true; the input reads as it did. -/
def bookReadsSpec : ChangeSpec := { name := "bookReads", fn := fun _ => fun
  | [d1, d2] => { results := [.lit (.bool true)], args := [d1, d2] }
  | _ => none }
def bookReadsRow : OpenClaim := { program := "ytpdibjaeopcimaa", sum := "b3c8027439486809ae56f1c81a142357a539e714479b00bf38d00b644226c902", func := "carabiner/carabinerlaw19.BookReads", spec := "bookReads", unfollowed := true, recurses := true, plainKeys := false, apart := false }
def BookReadsSaid : Prop := bookReadsRow.holds Try.pinned (OpenSpec.ofChange bookReadsSpec)

/-- ITS FALSE NEIGHBOUR: 'it returns false'. Refute it at one input. -/
def bookReadsWrong : ChangeSpec := { name := "bookReads", fn := fun _ => fun
  | [d1, d2] => { results := [.lit (.bool false)], args := [d1, d2] }
  | _ => none }
def BookReadsWrongFalsely : Prop := bookReadsRow.holds Try.pinned (OpenSpec.ofChange bookReadsWrong)

/-- 'carabinerlaw19.BookTags': WHATEVER THE INPUT: true; the input reads as it did. -/
def bookTagsSpec : ChangeSpec := { name := "bookTags", fn := fun _ => fun
  | [d1, d2, d3] => { results := [.lit (.bool true)], args := [d1, d2, d3] }
  | _ => none }
def bookTagsRow : OpenClaim := { program := "ytpdibjaeopcimaa", sum := "b3c8027439486809ae56f1c81a142357a539e714479b00bf38d00b644226c902", func := "carabiner/carabinerlaw19.BookTags", spec := "bookTags", unfollowed := true, recurses := true, plainKeys := false, apart := false }
def BookTagsSaid : Prop := bookTagsRow.holds Try.pinned (OpenSpec.ofChange bookTagsSpec)

/-- ITS FALSE NEIGHBOUR: 'it returns false'. Refute it at one input. -/
def bookTagsWrong : ChangeSpec := { name := "bookTags", fn := fun _ => fun
  | [d1, d2, d3] => { results := [.lit (.bool false)], args := [d1, d2, d3] }
  | _ => none }
def BookTagsWrongFalsely : Prop := bookTagsRow.holds Try.pinned (OpenSpec.ofChange bookTagsWrong)

/-- 'carabinerlaw19.BookApart': WHATEVER THE INPUT: true; the input reads as it did. -/
def bookApartSpec : ChangeSpec := { name := "bookApart", fn := fun _ => fun
  | [d1, d2, d3] => { results := [.lit (.bool true)], args := [d1, d2, d3] }
  | _ => none }
def bookApartRow : OpenClaim := { program := "ytpdibjaeopcimaa", sum := "b3c8027439486809ae56f1c81a142357a539e714479b00bf38d00b644226c902", func := "carabiner/carabinerlaw19.BookApart", spec := "bookApart", unfollowed := true, recurses := true, plainKeys := false, apart := false }
def BookApartSaid : Prop := bookApartRow.holds Try.pinned (OpenSpec.ofChange bookApartSpec)

/-- ITS FALSE NEIGHBOUR: 'it returns false'. Refute it at one input. -/
def bookApartWrong : ChangeSpec := { name := "bookApart", fn := fun _ => fun
  | [d1, d2, d3] => { results := [.lit (.bool false)], args := [d1, d2, d3] }
  | _ => none }
def BookApartWrongFalsely : Prop := bookApartRow.holds Try.pinned (OpenSpec.ofChange bookApartWrong)

/-- 'carabinerlaw19.BookMade': WHATEVER THE INPUT: true; the input reads as it did. -/
def bookMadeSpec : ChangeSpec := { name := "bookMade", fn := fun _ => fun
  | [d1, d2, d3] => { results := [.lit (.bool true)], args := [d1, d2, d3] }
  | _ => none }
def bookMadeRow : OpenClaim := { program := "ytpdibjaeopcimaa", sum := "b3c8027439486809ae56f1c81a142357a539e714479b00bf38d00b644226c902", func := "carabiner/carabinerlaw19.BookMade", spec := "bookMade", unfollowed := true, recurses := true, plainKeys := false, apart := false }
def BookMadeSaid : Prop := bookMadeRow.holds Try.pinned (OpenSpec.ofChange bookMadeSpec)

/-- ITS FALSE NEIGHBOUR: 'it returns false'. Refute it at one input. -/
def bookMadeWrong : ChangeSpec := { name := "bookMade", fn := fun _ => fun
  | [d1, d2, d3] => { results := [.lit (.bool false)], args := [d1, d2, d3] }
  | _ => none }
def BookMadeWrongFalsely : Prop := bookMadeRow.holds Try.pinned (OpenSpec.ofChange bookMadeWrong)

/- THE SECOND FORM. 'bulk': how many values and letters a reading holds, each counted each time it is reached (what is shared counts as often as it is met; a slice's spare places count too). A statement '..UptoSaid' is the law's where the arguments, and the package variables that the reading takes, are together of bulk at most 1048576: NARROWER than '..Said'. Prove '..Said' where nothing that the law and all that it calls make is longer than what came in: it says more and counts as full. Else prove '..UptoSaid'. A law counts once. -/
mutual
def uptoBulk {H : Type} : DataW H → Nat
  | .lit (.string bytes) => bytes.length + 1
  | .lit _ => 1
  | .nil => 1
  | .ptr d => uptoBulk d + 1
  | .slice elems spare => uptoBulkAll elems + uptoBulkAll spare + 1
  | .agg parts => uptoBulkAll parts + 1
  | .iface _ d => uptoBulk d + 1
  | .map entries => uptoBulkEntries entries + 1
  | .held _ => 1
def uptoBulkAll {H : Type} : List (DataW H) → Nat
  | [] => 0
  | d :: r => uptoBulk d + uptoBulkAll r
def uptoBulkEntries {H : Type} : List (Lit × DataW H) → Nat
  | [] => 0
  | x :: r => uptoBulkEntry x + uptoBulkEntries r
def uptoBulkEntry {H : Type} : Lit × DataW H → Nat
  | (.string bytes, d) => bytes.length + uptoBulk d + 1
  | (_, d) => uptoBulk d + 1
 end
def uptoSmall : (H : Type) → List (DataW H) → Bool := fun _ ds => decide (uptoBulkAll ds ≤ 1048576)
def OpenSpec.upto (s : _root_.Go.ChangeSpec) : _root_.Go.OpenSpec := { _root_.Go.OpenSpec.ofChange s with cond := some uptoSmall }

/-- 'carabinerlaw19.BookOnce', WHERE WHAT IT READS IS OF BULK AT MOST 1048576: true; the input reads as it did. -/
def bookOnceUptoRow : OpenClaim := { program := "ytpdibjaeopcimaa", sum := "b3c8027439486809ae56f1c81a142357a539e714479b00bf38d00b644226c902", func := "carabiner/carabinerlaw19.BookOnce", spec := "bookOnce", unfollowed := true, recurses := true, plainKeys := false, apart := false, narrowed := true }
def BookOnceUptoSaid : Prop := bookOnceUptoRow.holds Try.pinned (OpenSpec.upto bookOnceSpec)

/-- 'carabinerlaw19.BookReads', WHERE WHAT IT READS IS OF BULK AT MOST 1048576: true; the input reads as it did. -/
def bookReadsUptoRow : OpenClaim := { program := "ytpdibjaeopcimaa", sum := "b3c8027439486809ae56f1c81a142357a539e714479b00bf38d00b644226c902", func := "carabiner/carabinerlaw19.BookReads", spec := "bookReads", unfollowed := true, recurses := true, plainKeys := false, apart := false, narrowed := true }
def BookReadsUptoSaid : Prop := bookReadsUptoRow.holds Try.pinned (OpenSpec.upto bookReadsSpec)

/-- 'carabinerlaw19.BookTags', WHERE WHAT IT READS IS OF BULK AT MOST 1048576: true; the input reads as it did. -/
def bookTagsUptoRow : OpenClaim := { program := "ytpdibjaeopcimaa", sum := "b3c8027439486809ae56f1c81a142357a539e714479b00bf38d00b644226c902", func := "carabiner/carabinerlaw19.BookTags", spec := "bookTags", unfollowed := true, recurses := true, plainKeys := false, apart := false, narrowed := true }
def BookTagsUptoSaid : Prop := bookTagsUptoRow.holds Try.pinned (OpenSpec.upto bookTagsSpec)

/-- 'carabinerlaw19.BookApart', WHERE WHAT IT READS IS OF BULK AT MOST 1048576: true; the input reads as it did. -/
def bookApartUptoRow : OpenClaim := { program := "ytpdibjaeopcimaa", sum := "b3c8027439486809ae56f1c81a142357a539e714479b00bf38d00b644226c902", func := "carabiner/carabinerlaw19.BookApart", spec := "bookApart", unfollowed := true, recurses := true, plainKeys := false, apart := false, narrowed := true }
def BookApartUptoSaid : Prop := bookApartUptoRow.holds Try.pinned (OpenSpec.upto bookApartSpec)

/-- 'carabinerlaw19.BookMade', WHERE WHAT IT READS IS OF BULK AT MOST 1048576: true; the input reads as it did. -/
def bookMadeUptoRow : OpenClaim := { program := "ytpdibjaeopcimaa", sum := "b3c8027439486809ae56f1c81a142357a539e714479b00bf38d00b644226c902", func := "carabiner/carabinerlaw19.BookMade", spec := "bookMade", unfollowed := true, recurses := true, plainKeys := false, apart := false, narrowed := true }
def BookMadeUptoSaid : Prop := bookMadeUptoRow.holds Try.pinned (OpenSpec.upto bookMadeSpec)

end Rows
end Go.Proofs.Ytpdibjaeopcimaa
