/-
  No cell of these rows narrows 'for every input' (looked for: loops, veiled, ifaces, maps, wideKeys, modest, calm, conditions, laid).
  DERIVED. THE GIVEN ROWS OF THIS SEAT. 4 by the template 'for every input the law returns true; each argument reads behind the call as it read before'; 0 by the template 'total and deterministic' (their statements: YtgbmkfifjijoiaaTotals.lean).
  GIVEN WITH THE SEED: the statements are not yours to turn. If you find one false, say at which input.
  Laid BY PROGRAM, IN A SANDBOX (cutbox-rows.mjs): the forced cells as the released guide's own fill.sh prints them over the translation fc1e796f12bf0a2d… (all of the seat's roots in one cut). By AI agents, Wed Nov 11 2026. No macro, syntax, notation, axiom, sorry.
-/
import Derived.Test.YtgbmkfifjijoiaaChecked
import GoSem.Claim
import GoSem.ClaimJoined
import GoSem.ClaimMapViews
import Derived.JoinedTies
import Derived.KernelRfl
namespace Go.Proofs.Ytgbmkfifjijoiaa
/- THE CELL 'sum', in the pinned program and in every row, IS THE sha256 OF THE DUMP (.gsa) THAT YtgbmkfifjijoiaaProg.lean LOADS. Nothing in Lean hashes anything: it is a label: what it is worth is what the hold of that sum in a sandbox is worth. -/
noncomputable def Try.pinned : Pinned := { name := "ytgbmkfifjijoiaa", sum := "fc1e796f12bf0a2dab7b676713fdb44afa4b7d9705f9c79f1f1151b683cb4c56", checked := Try.checked }
namespace Rows
def none {H : Type} : Left H := { results := [], args := [] }

/-- 'compasslaw07.LinkWays': WHATEVER THE INPUT: true; the input reads as it did. -/
def linkWaysSpec : ChangeSpec := { name := "linkWays", fn := fun _ => fun
  | [d1, d2] => { results := [.lit (.bool true)], args := [d1, d2] }
  | _ => none }
def linkWaysRow : OpenClaim := { program := "ytgbmkfifjijoiaa", sum := "fc1e796f12bf0a2dab7b676713fdb44afa4b7d9705f9c79f1f1151b683cb4c56", func := "compass/compasslaw07.LinkWays", spec := "linkWays", apart := false }
def LinkWaysSaid : Prop := linkWaysRow.holds Try.pinned (OpenSpec.ofChange linkWaysSpec)

/-- ITS FALSE NEIGHBOUR: 'it returns false'. Refute it at one input. -/
def linkWaysWrong : ChangeSpec := { name := "linkWays", fn := fun _ => fun
  | [d1, d2] => { results := [.lit (.bool false)], args := [d1, d2] }
  | _ => none }
def LinkWaysWrongFalsely : Prop := linkWaysRow.holds Try.pinned (OpenSpec.ofChange linkWaysWrong)

/-- 'compasslaw07.LinkAdds': WHATEVER THE INPUT: true; the input reads as it did. -/
def linkAddsSpec : ChangeSpec := { name := "linkAdds", fn := fun _ => fun
  | [d1, d2, d3] => { results := [.lit (.bool true)], args := [d1, d2, d3] }
  | _ => none }
def linkAddsRow : OpenClaim := { program := "ytgbmkfifjijoiaa", sum := "fc1e796f12bf0a2dab7b676713fdb44afa4b7d9705f9c79f1f1151b683cb4c56", func := "compass/compasslaw07.LinkAdds", spec := "linkAdds", apart := false }
def LinkAddsSaid : Prop := linkAddsRow.holds Try.pinned (OpenSpec.ofChange linkAddsSpec)

/-- ITS FALSE NEIGHBOUR: 'it returns false'. Refute it at one input. -/
def linkAddsWrong : ChangeSpec := { name := "linkAdds", fn := fun _ => fun
  | [d1, d2, d3] => { results := [.lit (.bool false)], args := [d1, d2, d3] }
  | _ => none }
def LinkAddsWrongFalsely : Prop := linkAddsRow.holds Try.pinned (OpenSpec.ofChange linkAddsWrong)

/-- 'compasslaw07.LinkPlays': WHATEVER THE INPUT: true; the input reads as it did. -/
def linkPlaysSpec : ChangeSpec := { name := "linkPlays", fn := fun _ => fun
  | [d1, d2] => { results := [.lit (.bool true)], args := [d1, d2] }
  | _ => none }
def linkPlaysRow : OpenClaim := { program := "ytgbmkfifjijoiaa", sum := "fc1e796f12bf0a2dab7b676713fdb44afa4b7d9705f9c79f1f1151b683cb4c56", func := "compass/compasslaw07.LinkPlays", spec := "linkPlays", apart := false }
def LinkPlaysSaid : Prop := linkPlaysRow.holds Try.pinned (OpenSpec.ofChange linkPlaysSpec)

/-- ITS FALSE NEIGHBOUR: 'it returns false'. Refute it at one input. -/
def linkPlaysWrong : ChangeSpec := { name := "linkPlays", fn := fun _ => fun
  | [d1, d2] => { results := [.lit (.bool false)], args := [d1, d2] }
  | _ => none }
def LinkPlaysWrongFalsely : Prop := linkPlaysRow.holds Try.pinned (OpenSpec.ofChange linkPlaysWrong)

/-- 'compasslaw07.LinkCuts': WHATEVER THE INPUT: true; the input reads as it did. -/
def linkCutsSpec : ChangeSpec := { name := "linkCuts", fn := fun _ => fun
  | [d1, d2] => { results := [.lit (.bool true)], args := [d1, d2] }
  | _ => none }
def linkCutsRow : OpenClaim := { program := "ytgbmkfifjijoiaa", sum := "fc1e796f12bf0a2dab7b676713fdb44afa4b7d9705f9c79f1f1151b683cb4c56", func := "compass/compasslaw07.LinkCuts", spec := "linkCuts", apart := false }
def LinkCutsSaid : Prop := linkCutsRow.holds Try.pinned (OpenSpec.ofChange linkCutsSpec)

/-- ITS FALSE NEIGHBOUR: 'it returns false'. Refute it at one input. -/
def linkCutsWrong : ChangeSpec := { name := "linkCuts", fn := fun _ => fun
  | [d1, d2] => { results := [.lit (.bool false)], args := [d1, d2] }
  | _ => none }
def LinkCutsWrongFalsely : Prop := linkCutsRow.holds Try.pinned (OpenSpec.ofChange linkCutsWrong)

/- THE SECOND FORM. 'bulk': how many values and letters a reading holds, each counted each time it is reached (what is shared counts as often as it is met; a slice's spare places count too). A statement '..UptoSaid' is the law's where the arguments, and the package variables that the reading takes, are together of bulk at most 1048576: NARROWER than '..Said'. Prove '..Said' where nothing that the law and all that it calls make is longer than what came in: it says more and counts as full. Else prove '..UptoSaid'. A law counts once. -/
mutual
def uptoBulk {H : Type} : DataW H → Nat
  | .lit (.string bytes) => bytes.length + 1
  | .lit _ => 1
  | .nil => 1
  | .ptr d => uptoBulk d + 1
  | .slice elems spare => uptoBulkAll elems + uptoBulkAll spare + 1
  | .agg parts => uptoBulkAll parts + 1
  | .iface _ d => uptoBulk d + 1
  | .map entries => uptoBulkEntries entries + 1
  | .held _ => 1
def uptoBulkAll {H : Type} : List (DataW H) → Nat
  | [] => 0
  | d :: r => uptoBulk d + uptoBulkAll r
def uptoBulkEntries {H : Type} : List (Lit × DataW H) → Nat
  | [] => 0
  | x :: r => uptoBulkEntry x + uptoBulkEntries r
def uptoBulkEntry {H : Type} : Lit × DataW H → Nat
  | (.string bytes, d) => bytes.length + uptoBulk d + 1
  | (_, d) => uptoBulk d + 1
 end
def uptoSmall : (H : Type) → List (DataW H) → Bool := fun _ ds => decide (uptoBulkAll ds ≤ 1048576)
def OpenSpec.upto (s : _root_.Go.ChangeSpec) : _root_.Go.OpenSpec := { _root_.Go.OpenSpec.ofChange s with cond := some uptoSmall }

/-- 'compasslaw07.LinkWays', WHERE WHAT IT READS IS OF BULK AT MOST 1048576: true; the input reads as it did. -/
def linkWaysUptoRow : OpenClaim := { program := "ytgbmkfifjijoiaa", sum := "fc1e796f12bf0a2dab7b676713fdb44afa4b7d9705f9c79f1f1151b683cb4c56", func := "compass/compasslaw07.LinkWays", spec := "linkWays", apart := false, narrowed := true }
def LinkWaysUptoSaid : Prop := linkWaysUptoRow.holds Try.pinned (OpenSpec.upto linkWaysSpec)

/-- 'compasslaw07.LinkAdds', WHERE WHAT IT READS IS OF BULK AT MOST 1048576: true; the input reads as it did. -/
def linkAddsUptoRow : OpenClaim := { program := "ytgbmkfifjijoiaa", sum := "fc1e796f12bf0a2dab7b676713fdb44afa4b7d9705f9c79f1f1151b683cb4c56", func := "compass/compasslaw07.LinkAdds", spec := "linkAdds", apart := false, narrowed := true }
def LinkAddsUptoSaid : Prop := linkAddsUptoRow.holds Try.pinned (OpenSpec.upto linkAddsSpec)

/-- 'compasslaw07.LinkPlays', WHERE WHAT IT READS IS OF BULK AT MOST 1048576: true; the input reads as it did. -/
def linkPlaysUptoRow : OpenClaim := { program := "ytgbmkfifjijoiaa", sum := "fc1e796f12bf0a2dab7b676713fdb44afa4b7d9705f9c79f1f1151b683cb4c56", func := "compass/compasslaw07.LinkPlays", spec := "linkPlays", apart := false, narrowed := true }
def LinkPlaysUptoSaid : Prop := linkPlaysUptoRow.holds Try.pinned (OpenSpec.upto linkPlaysSpec)

/-- 'compasslaw07.LinkCuts', WHERE WHAT IT READS IS OF BULK AT MOST 1048576: true; the input reads as it did. -/
def linkCutsUptoRow : OpenClaim := { program := "ytgbmkfifjijoiaa", sum := "fc1e796f12bf0a2dab7b676713fdb44afa4b7d9705f9c79f1f1151b683cb4c56", func := "compass/compasslaw07.LinkCuts", spec := "linkCuts", apart := false, narrowed := true }
def LinkCutsUptoSaid : Prop := linkCutsUptoRow.holds Try.pinned (OpenSpec.upto linkCutsSpec)

end Rows
end Go.Proofs.Ytgbmkfifjijoiaa
