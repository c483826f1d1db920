/-
  No cell of these rows narrows 'for every input' (looked for: loops, veiled, ifaces, maps, wideKeys, modest, calm, conditions, laid).
  DERIVED. THE GIVEN ROWS OF THIS SEAT. 3 by the template 'for every input the law returns true; each argument reads behind the call as it read before'; 0 by the template 'total and deterministic' (their statements: YtcmingndbhldgaaTotals.lean).
  GIVEN WITH THE SEED: the statements are not yours to turn. If you find one false, say at which input.
  Laid BY PROGRAM, IN A SANDBOX (cutbox-rows.mjs): the forced cells as the released guide's own fill.sh prints them over the translation fb8db703e8bd1181… (all of the seat's roots in one cut). By AI agents, Wed Nov 11 2026. No macro, syntax, notation, axiom, sorry.
-/
import Derived.Test.YtcmingndbhldgaaChecked
import GoSem.Claim
import GoSem.ClaimJoined
import GoSem.ClaimMapViews
import Derived.JoinedTies
import Derived.KernelRfl
namespace Go.Proofs.Ytcmingndbhldgaa
/- THE CELL 'sum', in the pinned program and in every row, IS THE sha256 OF THE DUMP (.gsa) THAT YtcmingndbhldgaaProg.lean LOADS. Nothing in Lean hashes anything: it is a label: what it is worth is what the hold of that sum in a sandbox is worth. -/
noncomputable def Try.pinned : Pinned := { name := "ytcmingndbhldgaa", sum := "fb8db703e8bd1181b5b75c305950be8f7a209b41fa457a3da8dec63ddad30a16", checked := Try.checked }
namespace Rows
def none {H : Type} : Left H := { results := [], args := [] }

/-- 'enfiladelaw20.WalkAlls': WHATEVER THE INPUT: true; the input reads as it did. -/
def walkAllsSpec : ChangeSpec := { name := "walkAlls", fn := fun _ => fun
  | [d1, d2] => { results := [.lit (.bool true)], args := [d1, d2] }
  | _ => none }
def walkAllsRow : OpenClaim := { program := "ytcmingndbhldgaa", sum := "fb8db703e8bd1181b5b75c305950be8f7a209b41fa457a3da8dec63ddad30a16", func := "enfilade/enfiladelaw20.WalkAlls", spec := "walkAlls", inPlace := ["internal/bytealg.IndexByteString", "internal/bytealg.IndexString"], unfollowed := true, recurses := true, named := ["internal/bytealg.MaxLen"], apart := false }
def WalkAllsSaid : Prop := walkAllsRow.holds Try.pinned (OpenSpec.ofChange walkAllsSpec)

/-- ITS FALSE NEIGHBOUR: 'it returns false'. Refute it at one input. -/
def walkAllsWrong : ChangeSpec := { name := "walkAlls", fn := fun _ => fun
  | [d1, d2] => { results := [.lit (.bool false)], args := [d1, d2] }
  | _ => none }
def WalkAllsWrongFalsely : Prop := walkAllsRow.holds Try.pinned (OpenSpec.ofChange walkAllsWrong)

/-- 'enfiladelaw20.WalkRoots': WHATEVER THE INPUT: true; the input reads as it did. -/
def walkRootsSpec : ChangeSpec := { name := "walkRoots", fn := fun _ => fun
  | [d1, d2] => { results := [.lit (.bool true)], args := [d1, d2] }
  | _ => none }
def walkRootsRow : OpenClaim := { program := "ytcmingndbhldgaa", sum := "fb8db703e8bd1181b5b75c305950be8f7a209b41fa457a3da8dec63ddad30a16", func := "enfilade/enfiladelaw20.WalkRoots", spec := "walkRoots", inPlace := ["internal/bytealg.IndexByteString", "internal/bytealg.IndexString"], unfollowed := true, recurses := true, named := ["internal/bytealg.MaxLen"], apart := false }
def WalkRootsSaid : Prop := walkRootsRow.holds Try.pinned (OpenSpec.ofChange walkRootsSpec)

/-- ITS FALSE NEIGHBOUR: 'it returns false'. Refute it at one input. -/
def walkRootsWrong : ChangeSpec := { name := "walkRoots", fn := fun _ => fun
  | [d1, d2] => { results := [.lit (.bool false)], args := [d1, d2] }
  | _ => none }
def WalkRootsWrongFalsely : Prop := walkRootsRow.holds Try.pinned (OpenSpec.ofChange walkRootsWrong)

/-- 'enfiladelaw20.WalkCopies': WHATEVER THE INPUT: true; the input reads as it did. -/
def walkCopiesSpec : ChangeSpec := { name := "walkCopies", fn := fun _ => fun
  | [d1, d2] => { results := [.lit (.bool true)], args := [d1, d2] }
  | _ => none }
def walkCopiesRow : OpenClaim := { program := "ytcmingndbhldgaa", sum := "fb8db703e8bd1181b5b75c305950be8f7a209b41fa457a3da8dec63ddad30a16", func := "enfilade/enfiladelaw20.WalkCopies", spec := "walkCopies", inPlace := ["internal/bytealg.IndexByteString", "internal/bytealg.IndexString", "maps.clone"], unfollowed := true, recurses := true, named := ["internal/bytealg.MaxLen"], apart := false }
def WalkCopiesSaid : Prop := walkCopiesRow.holds Try.pinned (OpenSpec.ofChange walkCopiesSpec)

/-- ITS FALSE NEIGHBOUR: 'it returns false'. Refute it at one input. -/
def walkCopiesWrong : ChangeSpec := { name := "walkCopies", fn := fun _ => fun
  | [d1, d2] => { results := [.lit (.bool false)], args := [d1, d2] }
  | _ => none }
def WalkCopiesWrongFalsely : Prop := walkCopiesRow.holds Try.pinned (OpenSpec.ofChange walkCopiesWrong)

/- THE SECOND FORM. 'bulk': how many values and letters a reading holds, each counted each time it is reached (what is shared counts as often as it is met; a slice's spare places count too). A statement '..UptoSaid' is the law's where the arguments, and the package variables that the reading takes, are together of bulk at most 1048576: NARROWER than '..Said'. Prove '..Said' where nothing that the law and all that it calls make is longer than what came in: it says more and counts as full. Else prove '..UptoSaid'. A law counts once. -/
mutual
def uptoBulk {H : Type} : DataW H → Nat
  | .lit (.string bytes) => bytes.length + 1
  | .lit _ => 1
  | .nil => 1
  | .ptr d => uptoBulk d + 1
  | .slice elems spare => uptoBulkAll elems + uptoBulkAll spare + 1
  | .agg parts => uptoBulkAll parts + 1
  | .iface _ d => uptoBulk d + 1
  | .map entries => uptoBulkEntries entries + 1
  | .held _ => 1
def uptoBulkAll {H : Type} : List (DataW H) → Nat
  | [] => 0
  | d :: r => uptoBulk d + uptoBulkAll r
def uptoBulkEntries {H : Type} : List (Lit × DataW H) → Nat
  | [] => 0
  | x :: r => uptoBulkEntry x + uptoBulkEntries r
def uptoBulkEntry {H : Type} : Lit × DataW H → Nat
  | (.string bytes, d) => bytes.length + uptoBulk d + 1
  | (_, d) => uptoBulk d + 1
 end
def uptoSmall : (H : Type) → List (DataW H) → Bool := fun _ ds => decide (uptoBulkAll ds ≤ 1048576)
def OpenSpec.upto (s : _root_.Go.ChangeSpec) : _root_.Go.OpenSpec := { _root_.Go.OpenSpec.ofChange s with cond := some uptoSmall }

/-- 'enfiladelaw20.WalkAlls', WHERE WHAT IT READS IS OF BULK AT MOST 1048576: true; the input reads as it did. -/
def walkAllsUptoRow : OpenClaim := { program := "ytcmingndbhldgaa", sum := "fb8db703e8bd1181b5b75c305950be8f7a209b41fa457a3da8dec63ddad30a16", func := "enfilade/enfiladelaw20.WalkAlls", spec := "walkAlls", inPlace := ["internal/bytealg.IndexByteString", "internal/bytealg.IndexString"], unfollowed := true, recurses := true, named := ["internal/bytealg.MaxLen"], apart := false, narrowed := true }
def WalkAllsUptoSaid : Prop := walkAllsUptoRow.holds Try.pinned (OpenSpec.upto walkAllsSpec)

/-- 'enfiladelaw20.WalkRoots', WHERE WHAT IT READS IS OF BULK AT MOST 1048576: true; the input reads as it did. -/
def walkRootsUptoRow : OpenClaim := { program := "ytcmingndbhldgaa", sum := "fb8db703e8bd1181b5b75c305950be8f7a209b41fa457a3da8dec63ddad30a16", func := "enfilade/enfiladelaw20.WalkRoots", spec := "walkRoots", inPlace := ["internal/bytealg.IndexByteString", "internal/bytealg.IndexString"], unfollowed := true, recurses := true, named := ["internal/bytealg.MaxLen"], apart := false, narrowed := true }
def WalkRootsUptoSaid : Prop := walkRootsUptoRow.holds Try.pinned (OpenSpec.upto walkRootsSpec)

/-- 'enfiladelaw20.WalkCopies', WHERE WHAT IT READS IS OF BULK AT MOST 1048576: true; the input reads as it did. -/
def walkCopiesUptoRow : OpenClaim := { program := "ytcmingndbhldgaa", sum := "fb8db703e8bd1181b5b75c305950be8f7a209b41fa457a3da8dec63ddad30a16", func := "enfilade/enfiladelaw20.WalkCopies", spec := "walkCopies", inPlace := ["internal/bytealg.IndexByteString", "internal/bytealg.IndexString", "maps.clone"], unfollowed := true, recurses := true, named := ["internal/bytealg.MaxLen"], apart := false, narrowed := true }
def WalkCopiesUptoSaid : Prop := walkCopiesUptoRow.holds Try.pinned (OpenSpec.upto walkCopiesSpec)

end Rows
end Go.Proofs.Ytcmingndbhldgaa
