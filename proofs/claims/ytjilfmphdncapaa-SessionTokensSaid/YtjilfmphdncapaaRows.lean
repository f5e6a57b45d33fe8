/-
  No cell of these rows narrows 'for every input' (looked for: loops, veiled, ifaces, maps, wideKeys, modest, calm, conditions, laid).
  DERIVED. THE GIVEN ROWS OF THIS SEAT. 6 by the template 'for every input the law returns true; each argument reads behind the call as it read before'; 0 by the template 'total and deterministic' (their statements: YtjilfmphdncapaaTotals.lean).
  GIVEN WITH THE SEED: the statements are not yours to turn. If you find one false, say at which input.
  Laid BY PROGRAM, IN A SANDBOX (cutbox-rows.mjs): the forced cells as the released guide's own fill.sh prints them over the translation 76bbe2ab1870a38c… (all of the seat's roots in one cut). By AI agents, Wed Nov 11 2026. No macro, syntax, notation, axiom, sorry.
-/
import Derived.Test.YtjilfmphdncapaaChecked
import GoSem.Claim
import GoSem.ClaimJoined
import GoSem.ClaimMapViews
import Derived.JoinedTies
import Derived.KernelRfl
namespace Go.Proofs.Ytjilfmphdncapaa
/- THE CELL 'sum', in the pinned program and in every row, IS THE sha256 OF THE DUMP (.gsa) THAT YtjilfmphdncapaaProg.lean LOADS. Nothing in Lean hashes anything: it is a label: what it is worth is what the hold of that sum in a sandbox is worth. -/
noncomputable def Try.pinned : Pinned := { name := "ytjilfmphdncapaa", sum := "76bbe2ab1870a38cbad4f8c8f4c085bdf39daeb840de48f541a4975a5658d774", checked := Try.checked }
namespace Rows
def none {H : Type} : Left H := { results := [], args := [] }

/-- 'carabinerlaw18.SessionOrder': WHATEVER THE INPUT: true; the input reads as it did. -/
def sessionOrderSpec : ChangeSpec := { name := "sessionOrder", fn := fun _ => fun
  | [d1, d2, d3] => { results := [.lit (.bool true)], args := [d1, d2, d3] }
  | _ => none }
def sessionOrderRow : OpenClaim := { program := "ytjilfmphdncapaa", sum := "76bbe2ab1870a38cbad4f8c8f4c085bdf39daeb840de48f541a4975a5658d774", func := "carabiner/carabinerlaw18.SessionOrder", spec := "sessionOrder", unfollowed := true, recurses := true, apart := false }
def SessionOrderSaid : Prop := sessionOrderRow.holds Try.pinned (OpenSpec.ofChange sessionOrderSpec)

/-- ITS FALSE NEIGHBOUR: 'it returns false'. Refute it at one input. -/
def sessionOrderWrong : ChangeSpec := { name := "sessionOrder", fn := fun _ => fun
  | [d1, d2, d3] => { results := [.lit (.bool false)], args := [d1, d2, d3] }
  | _ => none }
def SessionOrderWrongFalsely : Prop := sessionOrderRow.holds Try.pinned (OpenSpec.ofChange sessionOrderWrong)

/-- 'carabinerlaw18.SessionAll': WHATEVER THE INPUT: true; the input reads as it did. -/
def sessionAllSpec : ChangeSpec := { name := "sessionAll", fn := fun _ => fun
  | [d1, d2] => { results := [.lit (.bool true)], args := [d1, d2] }
  | _ => none }
def sessionAllRow : OpenClaim := { program := "ytjilfmphdncapaa", sum := "76bbe2ab1870a38cbad4f8c8f4c085bdf39daeb840de48f541a4975a5658d774", func := "carabiner/carabinerlaw18.SessionAll", spec := "sessionAll", unfollowed := true, recurses := true, apart := false }
def SessionAllSaid : Prop := sessionAllRow.holds Try.pinned (OpenSpec.ofChange sessionAllSpec)

/-- ITS FALSE NEIGHBOUR: 'it returns false'. Refute it at one input. -/
def sessionAllWrong : ChangeSpec := { name := "sessionAll", fn := fun _ => fun
  | [d1, d2] => { results := [.lit (.bool false)], args := [d1, d2] }
  | _ => none }
def SessionAllWrongFalsely : Prop := sessionAllRow.holds Try.pinned (OpenSpec.ofChange sessionAllWrong)

/-- 'carabinerlaw18.SessionRises': WHATEVER THE INPUT: true; the input reads as it did. -/
def sessionRisesSpec : ChangeSpec := { name := "sessionRises", fn := fun _ => fun
  | [d1, d2] => { results := [.lit (.bool true)], args := [d1, d2] }
  | _ => none }
def sessionRisesRow : OpenClaim := { program := "ytjilfmphdncapaa", sum := "76bbe2ab1870a38cbad4f8c8f4c085bdf39daeb840de48f541a4975a5658d774", func := "carabiner/carabinerlaw18.SessionRises", spec := "sessionRises", unfollowed := true, recurses := true, apart := false }
def SessionRisesSaid : Prop := sessionRisesRow.holds Try.pinned (OpenSpec.ofChange sessionRisesSpec)

/-- ITS FALSE NEIGHBOUR: 'it returns false'. Refute it at one input. -/
def sessionRisesWrong : ChangeSpec := { name := "sessionRises", fn := fun _ => fun
  | [d1, d2] => { results := [.lit (.bool false)], args := [d1, d2] }
  | _ => none }
def SessionRisesWrongFalsely : Prop := sessionRisesRow.holds Try.pinned (OpenSpec.ofChange sessionRisesWrong)

/-- 'carabinerlaw18.SessionIds': WHATEVER THE INPUT: true; the input reads as it did. -/
def sessionIdsSpec : ChangeSpec := { name := "sessionIds", fn := fun _ => fun
  | [d1, d2, d3] => { results := [.lit (.bool true)], args := [d1, d2, d3] }
  | _ => none }
def sessionIdsRow : OpenClaim := { program := "ytjilfmphdncapaa", sum := "76bbe2ab1870a38cbad4f8c8f4c085bdf39daeb840de48f541a4975a5658d774", func := "carabiner/carabinerlaw18.SessionIds", spec := "sessionIds", unfollowed := true, recurses := true, apart := false }
def SessionIdsSaid : Prop := sessionIdsRow.holds Try.pinned (OpenSpec.ofChange sessionIdsSpec)

/-- ITS FALSE NEIGHBOUR: 'it returns false'. Refute it at one input. -/
def sessionIdsWrong : ChangeSpec := { name := "sessionIds", fn := fun _ => fun
  | [d1, d2, d3] => { results := [.lit (.bool false)], args := [d1, d2, d3] }
  | _ => none }
def SessionIdsWrongFalsely : Prop := sessionIdsRow.holds Try.pinned (OpenSpec.ofChange sessionIdsWrong)

/-- 'carabinerlaw18.SessionForks': WHATEVER THE INPUT: true; the input reads as it did. -/
def sessionForksSpec : ChangeSpec := { name := "sessionForks", fn := fun _ => fun
  | [d1, d2, d3] => { results := [.lit (.bool true)], args := [d1, d2, d3] }
  | _ => none }
def sessionForksRow : OpenClaim := { program := "ytjilfmphdncapaa", sum := "76bbe2ab1870a38cbad4f8c8f4c085bdf39daeb840de48f541a4975a5658d774", func := "carabiner/carabinerlaw18.SessionForks", spec := "sessionForks", unfollowed := true, recurses := true, apart := false }
def SessionForksSaid : Prop := sessionForksRow.holds Try.pinned (OpenSpec.ofChange sessionForksSpec)

/-- ITS FALSE NEIGHBOUR: 'it returns false'. Refute it at one input. -/
def sessionForksWrong : ChangeSpec := { name := "sessionForks", fn := fun _ => fun
  | [d1, d2, d3] => { results := [.lit (.bool false)], args := [d1, d2, d3] }
  | _ => none }
def SessionForksWrongFalsely : Prop := sessionForksRow.holds Try.pinned (OpenSpec.ofChange sessionForksWrong)

/-- 'carabinerlaw18.SessionTokens': WHATEVER THE INPUT: true; the input reads as it did. -/
def sessionTokensSpec : ChangeSpec := { name := "sessionTokens", fn := fun _ => fun
  | [d1, d2, d3] => { results := [.lit (.bool true)], args := [d1, d2, d3] }
  | _ => none }
def sessionTokensRow : OpenClaim := { program := "ytjilfmphdncapaa", sum := "76bbe2ab1870a38cbad4f8c8f4c085bdf39daeb840de48f541a4975a5658d774", func := "carabiner/carabinerlaw18.SessionTokens", spec := "sessionTokens", unfollowed := true, recurses := true, apart := false }
def SessionTokensSaid : Prop := sessionTokensRow.holds Try.pinned (OpenSpec.ofChange sessionTokensSpec)

/-- ITS FALSE NEIGHBOUR: 'it returns false'. Refute it at one input. -/
def sessionTokensWrong : ChangeSpec := { name := "sessionTokens", fn := fun _ => fun
  | [d1, d2, d3] => { results := [.lit (.bool false)], args := [d1, d2, d3] }
  | _ => none }
def SessionTokensWrongFalsely : Prop := sessionTokensRow.holds Try.pinned (OpenSpec.ofChange sessionTokensWrong)

/- THE SECOND FORM. 'bulk': how many values and letters a reading holds, each counted each time it is reached (what is shared counts as often as it is met; a slice's spare places count too). A statement '..UptoSaid' is the law's where the arguments, and the package variables that the reading takes, are together of bulk at most 1048576: NARROWER than '..Said'. Prove '..Said' where nothing that the law and all that it calls make is longer than what came in: it says more and counts as full. Else prove '..UptoSaid'. A law counts once. -/
mutual
def uptoBulk {H : Type} : DataW H → Nat
  | .lit (.string bytes) => bytes.length + 1
  | .lit _ => 1
  | .nil => 1
  | .ptr d => uptoBulk d + 1
  | .slice elems spare => uptoBulkAll elems + uptoBulkAll spare + 1
  | .agg parts => uptoBulkAll parts + 1
  | .iface _ d => uptoBulk d + 1
  | .map entries => uptoBulkEntries entries + 1
  | .held _ => 1
def uptoBulkAll {H : Type} : List (DataW H) → Nat
  | [] => 0
  | d :: r => uptoBulk d + uptoBulkAll r
def uptoBulkEntries {H : Type} : List (Lit × DataW H) → Nat
  | [] => 0
  | x :: r => uptoBulkEntry x + uptoBulkEntries r
def uptoBulkEntry {H : Type} : Lit × DataW H → Nat
  | (.string bytes, d) => bytes.length + uptoBulk d + 1
  | (_, d) => uptoBulk d + 1
 end
def uptoSmall : (H : Type) → List (DataW H) → Bool := fun _ ds => decide (uptoBulkAll ds ≤ 1048576)
def OpenSpec.upto (s : _root_.Go.ChangeSpec) : _root_.Go.OpenSpec := { _root_.Go.OpenSpec.ofChange s with cond := some uptoSmall }

/-- 'carabinerlaw18.SessionOrder', WHERE WHAT IT READS IS OF BULK AT MOST 1048576: true; the input reads as it did. -/
def sessionOrderUptoRow : OpenClaim := { program := "ytjilfmphdncapaa", sum := "76bbe2ab1870a38cbad4f8c8f4c085bdf39daeb840de48f541a4975a5658d774", func := "carabiner/carabinerlaw18.SessionOrder", spec := "sessionOrder", unfollowed := true, recurses := true, apart := false, narrowed := true }
def SessionOrderUptoSaid : Prop := sessionOrderUptoRow.holds Try.pinned (OpenSpec.upto sessionOrderSpec)

/-- 'carabinerlaw18.SessionAll', WHERE WHAT IT READS IS OF BULK AT MOST 1048576: true; the input reads as it did. -/
def sessionAllUptoRow : OpenClaim := { program := "ytjilfmphdncapaa", sum := "76bbe2ab1870a38cbad4f8c8f4c085bdf39daeb840de48f541a4975a5658d774", func := "carabiner/carabinerlaw18.SessionAll", spec := "sessionAll", unfollowed := true, recurses := true, apart := false, narrowed := true }
def SessionAllUptoSaid : Prop := sessionAllUptoRow.holds Try.pinned (OpenSpec.upto sessionAllSpec)

/-- 'carabinerlaw18.SessionRises', WHERE WHAT IT READS IS OF BULK AT MOST 1048576: true; the input reads as it did. -/
def sessionRisesUptoRow : OpenClaim := { program := "ytjilfmphdncapaa", sum := "76bbe2ab1870a38cbad4f8c8f4c085bdf39daeb840de48f541a4975a5658d774", func := "carabiner/carabinerlaw18.SessionRises", spec := "sessionRises", unfollowed := true, recurses := true, apart := false, narrowed := true }
def SessionRisesUptoSaid : Prop := sessionRisesUptoRow.holds Try.pinned (OpenSpec.upto sessionRisesSpec)

/-- 'carabinerlaw18.SessionIds', WHERE WHAT IT READS IS OF BULK AT MOST 1048576: true; the input reads as it did. -/
def sessionIdsUptoRow : OpenClaim := { program := "ytjilfmphdncapaa", sum := "76bbe2ab1870a38cbad4f8c8f4c085bdf39daeb840de48f541a4975a5658d774", func := "carabiner/carabinerlaw18.SessionIds", spec := "sessionIds", unfollowed := true, recurses := true, apart := false, narrowed := true }
def SessionIdsUptoSaid : Prop := sessionIdsUptoRow.holds Try.pinned (OpenSpec.upto sessionIdsSpec)

/-- 'carabinerlaw18.SessionForks', WHERE WHAT IT READS IS OF BULK AT MOST 1048576: true; the input reads as it did. -/
def sessionForksUptoRow : OpenClaim := { program := "ytjilfmphdncapaa", sum := "76bbe2ab1870a38cbad4f8c8f4c085bdf39daeb840de48f541a4975a5658d774", func := "carabiner/carabinerlaw18.SessionForks", spec := "sessionForks", unfollowed := true, recurses := true, apart := false, narrowed := true }
def SessionForksUptoSaid : Prop := sessionForksUptoRow.holds Try.pinned (OpenSpec.upto sessionForksSpec)

/-- 'carabinerlaw18.SessionTokens', WHERE WHAT IT READS IS OF BULK AT MOST 1048576: true; the input reads as it did. -/
def sessionTokensUptoRow : OpenClaim := { program := "ytjilfmphdncapaa", sum := "76bbe2ab1870a38cbad4f8c8f4c085bdf39daeb840de48f541a4975a5658d774", func := "carabiner/carabinerlaw18.SessionTokens", spec := "sessionTokens", unfollowed := true, recurses := true, apart := false, narrowed := true }
def SessionTokensUptoSaid : Prop := sessionTokensUptoRow.holds Try.pinned (OpenSpec.upto sessionTokensSpec)

end Rows
end Go.Proofs.Ytjilfmphdncapaa
