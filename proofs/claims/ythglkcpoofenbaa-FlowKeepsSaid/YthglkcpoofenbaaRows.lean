/-
  No cell of these rows narrows 'for every input' (looked for: loops, veiled, ifaces, maps, wideKeys, modest, calm, conditions, laid).
  DERIVED. THE GIVEN ROWS OF THIS SEAT. 6 by the template 'for every input the law returns true; each argument reads behind the call as it read before'; 0 by the template 'total and deterministic' (their statements: YthglkcpoofenbaaTotals.lean).
  GIVEN WITH THE SEED: the statements are not yours to turn. If you find one false, say at which input.
  Laid BY PROGRAM, IN A SANDBOX (cutbox-rows.mjs): the forced cells as the released guide's own fill.sh prints them over the translation 7218f6c50dfbc6a9… (all of the seat's roots in one cut). By AI agents, Wed Nov 11 2026. No macro, syntax, notation, axiom, sorry.
-/
import Derived.Test.YthglkcpoofenbaaChecked
import GoSem.Claim
import GoSem.ClaimJoined
import GoSem.ClaimMapViews
import Derived.JoinedTies
import Derived.KernelRfl
namespace Go.Proofs.Ythglkcpoofenbaa
/- THE CELL 'sum', in the pinned program and in every row, IS THE sha256 OF THE DUMP (.gsa) THAT YthglkcpoofenbaaProg.lean LOADS. Nothing in Lean hashes anything: it is a label: what it is worth is what the hold of that sum in a sandbox is worth. -/
noncomputable def Try.pinned : Pinned := { name := "ythglkcpoofenbaa", sum := "7218f6c50dfbc6a994bf976dd264398990131caa2d0a713e4dba5b29969ee73b", checked := Try.checked }
namespace Rows
def none {H : Type} : Left H := { results := [], args := [] }

/-- 'compasslaw13.FlowSolves': WHATEVER THE INPUT: true; the input reads as it did. -/
def flowSolvesSpec : ChangeSpec := { name := "flowSolves", fn := fun _ => fun
  | [d1, d2, d3] => { results := [.lit (.bool true)], args := [d1, d2, d3] }
  | _ => none }
def flowSolvesRow : OpenClaim := { program := "ythglkcpoofenbaa", sum := "7218f6c50dfbc6a994bf976dd264398990131caa2d0a713e4dba5b29969ee73b", func := "compass/compasslaw13.FlowSolves", spec := "flowSolves", unfollowed := true, recurses := true, apart := false }
def FlowSolvesSaid : Prop := flowSolvesRow.holds Try.pinned (OpenSpec.ofChange flowSolvesSpec)

/-- ITS FALSE NEIGHBOUR: 'it returns false'. Refute it at one input. -/
def flowSolvesWrong : ChangeSpec := { name := "flowSolves", fn := fun _ => fun
  | [d1, d2, d3] => { results := [.lit (.bool false)], args := [d1, d2, d3] }
  | _ => none }
def FlowSolvesWrongFalsely : Prop := flowSolvesRow.holds Try.pinned (OpenSpec.ofChange flowSolvesWrong)

/-- 'compasslaw13.FlowTurns': WHATEVER THE INPUT: true; the input reads as it did. -/
def flowTurnsSpec : ChangeSpec := { name := "flowTurns", fn := fun _ => fun
  | [d1, d2, d3] => { results := [.lit (.bool true)], args := [d1, d2, d3] }
  | _ => none }
def flowTurnsRow : OpenClaim := { program := "ythglkcpoofenbaa", sum := "7218f6c50dfbc6a994bf976dd264398990131caa2d0a713e4dba5b29969ee73b", func := "compass/compasslaw13.FlowTurns", spec := "flowTurns", unfollowed := true, recurses := true, apart := false }
def FlowTurnsSaid : Prop := flowTurnsRow.holds Try.pinned (OpenSpec.ofChange flowTurnsSpec)

/-- ITS FALSE NEIGHBOUR: 'it returns false'. Refute it at one input. -/
def flowTurnsWrong : ChangeSpec := { name := "flowTurns", fn := fun _ => fun
  | [d1, d2, d3] => { results := [.lit (.bool false)], args := [d1, d2, d3] }
  | _ => none }
def FlowTurnsWrongFalsely : Prop := flowTurnsRow.holds Try.pinned (OpenSpec.ofChange flowTurnsWrong)

/-- 'compasslaw13.FlowGrows': WHATEVER THE INPUT: true; the input reads as it did. -/
def flowGrowsSpec : ChangeSpec := { name := "flowGrows", fn := fun _ => fun
  | [d1, d2, d3] => { results := [.lit (.bool true)], args := [d1, d2, d3] }
  | _ => none }
def flowGrowsRow : OpenClaim := { program := "ythglkcpoofenbaa", sum := "7218f6c50dfbc6a994bf976dd264398990131caa2d0a713e4dba5b29969ee73b", func := "compass/compasslaw13.FlowGrows", spec := "flowGrows", unfollowed := true, recurses := true, apart := false }
def FlowGrowsSaid : Prop := flowGrowsRow.holds Try.pinned (OpenSpec.ofChange flowGrowsSpec)

/-- ITS FALSE NEIGHBOUR: 'it returns false'. Refute it at one input. -/
def flowGrowsWrong : ChangeSpec := { name := "flowGrows", fn := fun _ => fun
  | [d1, d2, d3] => { results := [.lit (.bool false)], args := [d1, d2, d3] }
  | _ => none }
def FlowGrowsWrongFalsely : Prop := flowGrowsRow.holds Try.pinned (OpenSpec.ofChange flowGrowsWrong)

/-- 'compasslaw13.FlowWays': WHATEVER THE INPUT: true; the input reads as it did. -/
def flowWaysSpec : ChangeSpec := { name := "flowWays", fn := fun _ => fun
  | [d1, d2, d3] => { results := [.lit (.bool true)], args := [d1, d2, d3] }
  | _ => none }
def flowWaysRow : OpenClaim := { program := "ythglkcpoofenbaa", sum := "7218f6c50dfbc6a994bf976dd264398990131caa2d0a713e4dba5b29969ee73b", func := "compass/compasslaw13.FlowWays", spec := "flowWays", unfollowed := true, recurses := true, apart := false }
def FlowWaysSaid : Prop := flowWaysRow.holds Try.pinned (OpenSpec.ofChange flowWaysSpec)

/-- ITS FALSE NEIGHBOUR: 'it returns false'. Refute it at one input. -/
def flowWaysWrong : ChangeSpec := { name := "flowWays", fn := fun _ => fun
  | [d1, d2, d3] => { results := [.lit (.bool false)], args := [d1, d2, d3] }
  | _ => none }
def FlowWaysWrongFalsely : Prop := flowWaysRow.holds Try.pinned (OpenSpec.ofChange flowWaysWrong)

/-- 'compasslaw13.FlowProved': WHATEVER THE INPUT: true; the input reads as it did. -/
def flowProvedSpec : ChangeSpec := { name := "flowProved", fn := fun _ => fun
  | [d1, d2] => { results := [.lit (.bool true)], args := [d1, d2] }
  | _ => none }
def flowProvedRow : OpenClaim := { program := "ythglkcpoofenbaa", sum := "7218f6c50dfbc6a994bf976dd264398990131caa2d0a713e4dba5b29969ee73b", func := "compass/compasslaw13.FlowProved", spec := "flowProved", unfollowed := true, recurses := true, apart := false }
def FlowProvedSaid : Prop := flowProvedRow.holds Try.pinned (OpenSpec.ofChange flowProvedSpec)

/-- ITS FALSE NEIGHBOUR: 'it returns false'. Refute it at one input. -/
def flowProvedWrong : ChangeSpec := { name := "flowProved", fn := fun _ => fun
  | [d1, d2] => { results := [.lit (.bool false)], args := [d1, d2] }
  | _ => none }
def FlowProvedWrongFalsely : Prop := flowProvedRow.holds Try.pinned (OpenSpec.ofChange flowProvedWrong)

/-- 'compasslaw13.FlowKeeps': WHATEVER THE INPUT: true; the input reads as it did. -/
def flowKeepsSpec : ChangeSpec := { name := "flowKeeps", fn := fun _ => fun
  | [d1, d2, d3] => { results := [.lit (.bool true)], args := [d1, d2, d3] }
  | _ => none }
def flowKeepsRow : OpenClaim := { program := "ythglkcpoofenbaa", sum := "7218f6c50dfbc6a994bf976dd264398990131caa2d0a713e4dba5b29969ee73b", func := "compass/compasslaw13.FlowKeeps", spec := "flowKeeps", unfollowed := true, recurses := true, apart := false }
def FlowKeepsSaid : Prop := flowKeepsRow.holds Try.pinned (OpenSpec.ofChange flowKeepsSpec)

/-- ITS FALSE NEIGHBOUR: 'it returns false'. Refute it at one input. -/
def flowKeepsWrong : ChangeSpec := { name := "flowKeeps", fn := fun _ => fun
  | [d1, d2, d3] => { results := [.lit (.bool false)], args := [d1, d2, d3] }
  | _ => none }
def FlowKeepsWrongFalsely : Prop := flowKeepsRow.holds Try.pinned (OpenSpec.ofChange flowKeepsWrong)

/- THE SECOND FORM. 'bulk': how many values and letters a reading holds, each counted each time it is reached (what is shared counts as often as it is met; a slice's spare places count too). A statement '..UptoSaid' is the law's where the arguments, and the package variables that the reading takes, are together of bulk at most 1048576: NARROWER than '..Said'. Prove '..Said' where nothing that the law and all that it calls make is longer than what came in: it says more and counts as full. Else prove '..UptoSaid'. A law counts once. -/
mutual
def uptoBulk {H : Type} : DataW H → Nat
  | .lit (.string bytes) => bytes.length + 1
  | .lit _ => 1
  | .nil => 1
  | .ptr d => uptoBulk d + 1
  | .slice elems spare => uptoBulkAll elems + uptoBulkAll spare + 1
  | .agg parts => uptoBulkAll parts + 1
  | .iface _ d => uptoBulk d + 1
  | .map entries => uptoBulkEntries entries + 1
  | .held _ => 1
def uptoBulkAll {H : Type} : List (DataW H) → Nat
  | [] => 0
  | d :: r => uptoBulk d + uptoBulkAll r
def uptoBulkEntries {H : Type} : List (Lit × DataW H) → Nat
  | [] => 0
  | x :: r => uptoBulkEntry x + uptoBulkEntries r
def uptoBulkEntry {H : Type} : Lit × DataW H → Nat
  | (.string bytes, d) => bytes.length + uptoBulk d + 1
  | (_, d) => uptoBulk d + 1
 end
def uptoSmall : (H : Type) → List (DataW H) → Bool := fun _ ds => decide (uptoBulkAll ds ≤ 1048576)
def OpenSpec.upto (s : _root_.Go.ChangeSpec) : _root_.Go.OpenSpec := { _root_.Go.OpenSpec.ofChange s with cond := some uptoSmall }

/-- 'compasslaw13.FlowSolves', WHERE WHAT IT READS IS OF BULK AT MOST 1048576: true; the input reads as it did. -/
def flowSolvesUptoRow : OpenClaim := { program := "ythglkcpoofenbaa", sum := "7218f6c50dfbc6a994bf976dd264398990131caa2d0a713e4dba5b29969ee73b", func := "compass/compasslaw13.FlowSolves", spec := "flowSolves", unfollowed := true, recurses := true, apart := false, narrowed := true }
def FlowSolvesUptoSaid : Prop := flowSolvesUptoRow.holds Try.pinned (OpenSpec.upto flowSolvesSpec)

/-- 'compasslaw13.FlowTurns', WHERE WHAT IT READS IS OF BULK AT MOST 1048576: true; the input reads as it did. -/
def flowTurnsUptoRow : OpenClaim := { program := "ythglkcpoofenbaa", sum := "7218f6c50dfbc6a994bf976dd264398990131caa2d0a713e4dba5b29969ee73b", func := "compass/compasslaw13.FlowTurns", spec := "flowTurns", unfollowed := true, recurses := true, apart := false, narrowed := true }
def FlowTurnsUptoSaid : Prop := flowTurnsUptoRow.holds Try.pinned (OpenSpec.upto flowTurnsSpec)

/-- 'compasslaw13.FlowGrows', WHERE WHAT IT READS IS OF BULK AT MOST 1048576: true; the input reads as it did. -/
def flowGrowsUptoRow : OpenClaim := { program := "ythglkcpoofenbaa", sum := "7218f6c50dfbc6a994bf976dd264398990131caa2d0a713e4dba5b29969ee73b", func := "compass/compasslaw13.FlowGrows", spec := "flowGrows", unfollowed := true, recurses := true, apart := false, narrowed := true }
def FlowGrowsUptoSaid : Prop := flowGrowsUptoRow.holds Try.pinned (OpenSpec.upto flowGrowsSpec)

/-- 'compasslaw13.FlowWays', WHERE WHAT IT READS IS OF BULK AT MOST 1048576: true; the input reads as it did. -/
def flowWaysUptoRow : OpenClaim := { program := "ythglkcpoofenbaa", sum := "7218f6c50dfbc6a994bf976dd264398990131caa2d0a713e4dba5b29969ee73b", func := "compass/compasslaw13.FlowWays", spec := "flowWays", unfollowed := true, recurses := true, apart := false, narrowed := true }
def FlowWaysUptoSaid : Prop := flowWaysUptoRow.holds Try.pinned (OpenSpec.upto flowWaysSpec)

/-- 'compasslaw13.FlowProved', WHERE WHAT IT READS IS OF BULK AT MOST 1048576: true; the input reads as it did. -/
def flowProvedUptoRow : OpenClaim := { program := "ythglkcpoofenbaa", sum := "7218f6c50dfbc6a994bf976dd264398990131caa2d0a713e4dba5b29969ee73b", func := "compass/compasslaw13.FlowProved", spec := "flowProved", unfollowed := true, recurses := true, apart := false, narrowed := true }
def FlowProvedUptoSaid : Prop := flowProvedUptoRow.holds Try.pinned (OpenSpec.upto flowProvedSpec)

/-- 'compasslaw13.FlowKeeps', WHERE WHAT IT READS IS OF BULK AT MOST 1048576: true; the input reads as it did. -/
def flowKeepsUptoRow : OpenClaim := { program := "ythglkcpoofenbaa", sum := "7218f6c50dfbc6a994bf976dd264398990131caa2d0a713e4dba5b29969ee73b", func := "compass/compasslaw13.FlowKeeps", spec := "flowKeeps", unfollowed := true, recurses := true, apart := false, narrowed := true }
def FlowKeepsUptoSaid : Prop := flowKeepsUptoRow.holds Try.pinned (OpenSpec.upto flowKeepsSpec)

end Rows
end Go.Proofs.Ythglkcpoofenbaa
