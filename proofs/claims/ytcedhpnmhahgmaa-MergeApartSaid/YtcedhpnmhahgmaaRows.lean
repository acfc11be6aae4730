/-
  No cell of these rows narrows 'for every input' (looked for: loops, veiled, ifaces, maps, wideKeys, modest, calm, conditions, laid).
  DERIVED. THE GIVEN ROWS OF THIS SEAT. 3 by the template 'for every input the law returns true; each argument reads behind the call as it read before'; 0 by the template 'total and deterministic' (their statements: YtcedhpnmhahgmaaTotals.lean).
  GIVEN WITH THE SEED: the statements are not yours to turn. If you find one false, say at which input.
  Laid BY PROGRAM, IN A SANDBOX (cutbox-rows.mjs): the forced cells as the released guide's own fill.sh prints them over the translation bc3a8f68884a6f20… (all of the seat's roots in one cut). By AI agents, Wed Nov 11 2026. No macro, syntax, notation, axiom, sorry.
-/
import Derived.Test.YtcedhpnmhahgmaaChecked
import GoSem.Claim
import GoSem.ClaimJoined
import GoSem.ClaimMapViews
import Derived.JoinedTies
import Derived.KernelRfl
namespace Go.Proofs.Ytcedhpnmhahgmaa
/- THE CELL 'sum', in the pinned program and in every row, IS THE sha256 OF THE DUMP (.gsa) THAT YtcedhpnmhahgmaaProg.lean LOADS. Nothing in Lean hashes anything: it is a label: what it is worth is what the hold of that sum in a sandbox is worth. -/
noncomputable def Try.pinned : Pinned := { name := "ytcedhpnmhahgmaa", sum := "bc3a8f68884a6f2040ce771760089cc497e8b5869c91758186b7362710e503ca", checked := Try.checked }
namespace Rows
def none {H : Type} : Left H := { results := [], args := [] }

/-- 'refinerylaw18.FoldWays': WHATEVER THE INPUT: true; the input reads as it did. -/
def foldWaysSpec : ChangeSpec := { name := "foldWays", fn := fun _ => fun
  | [d1, d2] => { results := [.lit (.bool true)], args := [d1, d2] }
  | _ => none }
def foldWaysRow : OpenClaim := { program := "ytcedhpnmhahgmaa", sum := "bc3a8f68884a6f2040ce771760089cc497e8b5869c91758186b7362710e503ca", func := "refinery/refinerylaw18.FoldWays", spec := "foldWays", inPlace := ["slices.overlaps[int]"], unfollowed := true, recurses := true, plainKeys := false, apart := false }
def FoldWaysSaid : Prop := foldWaysRow.holds Try.pinned (OpenSpec.ofChange foldWaysSpec)

/-- ITS FALSE NEIGHBOUR: 'it returns false'. Refute it at one input. -/
def foldWaysWrong : ChangeSpec := { name := "foldWays", fn := fun _ => fun
  | [d1, d2] => { results := [.lit (.bool false)], args := [d1, d2] }
  | _ => none }
def FoldWaysWrongFalsely : Prop := foldWaysRow.holds Try.pinned (OpenSpec.ofChange foldWaysWrong)

/-- 'refinerylaw21.SweepRounds': WHATEVER THE INPUT: true; the input reads as it did. -/
def sweepRoundsSpec : ChangeSpec := { name := "sweepRounds", fn := fun _ => fun
  | [d1, d2] => { results := [.lit (.bool true)], args := [d1, d2] }
  | _ => none }
def sweepRoundsRow : OpenClaim := { program := "ytcedhpnmhahgmaa", sum := "bc3a8f68884a6f2040ce771760089cc497e8b5869c91758186b7362710e503ca", func := "refinery/refinerylaw21.SweepRounds", spec := "sweepRounds", inPlace := ["slices.overlaps[int]"], unfollowed := true, recurses := true, plainKeys := false, apart := false }
def SweepRoundsSaid : Prop := sweepRoundsRow.holds Try.pinned (OpenSpec.ofChange sweepRoundsSpec)

/-- ITS FALSE NEIGHBOUR: 'it returns false'. Refute it at one input. -/
def sweepRoundsWrong : ChangeSpec := { name := "sweepRounds", fn := fun _ => fun
  | [d1, d2] => { results := [.lit (.bool false)], args := [d1, d2] }
  | _ => none }
def SweepRoundsWrongFalsely : Prop := sweepRoundsRow.holds Try.pinned (OpenSpec.ofChange sweepRoundsWrong)

/-- 'refinerylaw23.MergeApart': WHATEVER THE INPUT: true; the input reads as it did. -/
def mergeApartSpec : ChangeSpec := { name := "mergeApart", fn := fun _ => fun
  | [d1, d2] => { results := [.lit (.bool true)], args := [d1, d2] }
  | _ => none }
def mergeApartRow : OpenClaim := { program := "ytcedhpnmhahgmaa", sum := "bc3a8f68884a6f2040ce771760089cc497e8b5869c91758186b7362710e503ca", func := "refinery/refinerylaw23.MergeApart", spec := "mergeApart", inPlace := ["slices.overlaps[int]"], unfollowed := true, recurses := true, plainKeys := false, apart := false }
def MergeApartSaid : Prop := mergeApartRow.holds Try.pinned (OpenSpec.ofChange mergeApartSpec)

/-- ITS FALSE NEIGHBOUR: 'it returns false'. Refute it at one input. -/
def mergeApartWrong : ChangeSpec := { name := "mergeApart", fn := fun _ => fun
  | [d1, d2] => { results := [.lit (.bool false)], args := [d1, d2] }
  | _ => none }
def MergeApartWrongFalsely : Prop := mergeApartRow.holds Try.pinned (OpenSpec.ofChange mergeApartWrong)

/- THE SECOND FORM. 'bulk': how many values and letters a reading holds, each counted each time it is reached (what is shared counts as often as it is met; a slice's spare places count too). A statement '..UptoSaid' is the law's where the arguments, and the package variables that the reading takes, are together of bulk at most 1048576: NARROWER than '..Said'. Prove '..Said' where nothing that the law and all that it calls make is longer than what came in: it says more and counts as full. Else prove '..UptoSaid'. A law counts once. -/
mutual
def uptoBulk {H : Type} : DataW H → Nat
  | .lit (.string bytes) => bytes.length + 1
  | .lit _ => 1
  | .nil => 1
  | .ptr d => uptoBulk d + 1
  | .slice elems spare => uptoBulkAll elems + uptoBulkAll spare + 1
  | .agg parts => uptoBulkAll parts + 1
  | .iface _ d => uptoBulk d + 1
  | .map entries => uptoBulkEntries entries + 1
  | .held _ => 1
def uptoBulkAll {H : Type} : List (DataW H) → Nat
  | [] => 0
  | d :: r => uptoBulk d + uptoBulkAll r
def uptoBulkEntries {H : Type} : List (Lit × DataW H) → Nat
  | [] => 0
  | x :: r => uptoBulkEntry x + uptoBulkEntries r
def uptoBulkEntry {H : Type} : Lit × DataW H → Nat
  | (.string bytes, d) => bytes.length + uptoBulk d + 1
  | (_, d) => uptoBulk d + 1
 end
def uptoSmall : (H : Type) → List (DataW H) → Bool := fun _ ds => decide (uptoBulkAll ds ≤ 1048576)
def OpenSpec.upto (s : _root_.Go.ChangeSpec) : _root_.Go.OpenSpec := { _root_.Go.OpenSpec.ofChange s with cond := some uptoSmall }

/-- 'refinerylaw18.FoldWays', WHERE WHAT IT READS IS OF BULK AT MOST 1048576: true; the input reads as it did. -/
def foldWaysUptoRow : OpenClaim := { program := "ytcedhpnmhahgmaa", sum := "bc3a8f68884a6f2040ce771760089cc497e8b5869c91758186b7362710e503ca", func := "refinery/refinerylaw18.FoldWays", spec := "foldWays", inPlace := ["slices.overlaps[int]"], unfollowed := true, recurses := true, plainKeys := false, apart := false, narrowed := true }
def FoldWaysUptoSaid : Prop := foldWaysUptoRow.holds Try.pinned (OpenSpec.upto foldWaysSpec)

/-- 'refinerylaw21.SweepRounds', WHERE WHAT IT READS IS OF BULK AT MOST 1048576: true; the input reads as it did. -/
def sweepRoundsUptoRow : OpenClaim := { program := "ytcedhpnmhahgmaa", sum := "bc3a8f68884a6f2040ce771760089cc497e8b5869c91758186b7362710e503ca", func := "refinery/refinerylaw21.SweepRounds", spec := "sweepRounds", inPlace := ["slices.overlaps[int]"], unfollowed := true, recurses := true, plainKeys := false, apart := false, narrowed := true }
def SweepRoundsUptoSaid : Prop := sweepRoundsUptoRow.holds Try.pinned (OpenSpec.upto sweepRoundsSpec)

/-- 'refinerylaw23.MergeApart', WHERE WHAT IT READS IS OF BULK AT MOST 1048576: true; the input reads as it did. -/
def mergeApartUptoRow : OpenClaim := { program := "ytcedhpnmhahgmaa", sum := "bc3a8f68884a6f2040ce771760089cc497e8b5869c91758186b7362710e503ca", func := "refinery/refinerylaw23.MergeApart", spec := "mergeApart", inPlace := ["slices.overlaps[int]"], unfollowed := true, recurses := true, plainKeys := false, apart := false, narrowed := true }
def MergeApartUptoSaid : Prop := mergeApartUptoRow.holds Try.pinned (OpenSpec.upto mergeApartSpec)

end Rows
end Go.Proofs.Ytcedhpnmhahgmaa
