/-
  No cell of these rows narrows 'for every input' (looked for: loops, veiled, ifaces, maps, wideKeys, modest, calm, conditions, laid).
  DERIVED. THE GIVEN ROWS OF THIS SEAT. 7 by the template 'for every input the law returns true; each argument reads behind the call as it read before'; 0 by the template 'total and deterministic' (their statements: YtkdnnfpmppmmcaaTotals.lean).
  GIVEN WITH THE SEED: the statements are not yours to turn. If you find one false, say at which input.
  Laid BY PROGRAM, IN A SANDBOX (cutbox-rows.mjs): the forced cells as the released guide's own fill.sh prints them over the translation c3b4f419e801dbbf… (all of the seat's roots in one cut). By AI agents, Wed Nov 11 2026. No macro, syntax, notation, axiom, sorry.
-/
import Derived.Test.YtkdnnfpmppmmcaaChecked
import GoSem.Claim
import GoSem.ClaimJoined
import GoSem.ClaimMapViews
import Derived.JoinedTies
import Derived.KernelRfl
namespace Go.Proofs.Ytkdnnfpmppmmcaa
/- THE CELL 'sum', in the pinned program and in every row, IS THE sha256 OF THE DUMP (.gsa) THAT YtkdnnfpmppmmcaaProg.lean LOADS. Nothing in Lean hashes anything: it is a label: what it is worth is what the hold of that sum in a sandbox is worth. -/
noncomputable def Try.pinned : Pinned := { name := "ytkdnnfpmppmmcaa", sum := "c3b4f419e801dbbf8ffd411c99ef724c2227302bde420af6bcaffc5aed7cc46d", checked := Try.checked }
namespace Rows
def none {H : Type} : Left H := { results := [], args := [] }

/-- 'compasslaw14.CostSolves': WHATEVER THE INPUT: true; the input reads as it did. -/
def costSolvesSpec : ChangeSpec := { name := "costSolves", fn := fun _ => fun
  | [d1, d2, d3] => { results := [.lit (.bool true)], args := [d1, d2, d3] }
  | _ => none }
def costSolvesRow : OpenClaim := { program := "ytkdnnfpmppmmcaa", sum := "c3b4f419e801dbbf8ffd411c99ef724c2227302bde420af6bcaffc5aed7cc46d", func := "compass/compasslaw14.CostSolves", spec := "costSolves", unfollowed := true, recurses := true, apart := false }
def CostSolvesSaid : Prop := costSolvesRow.holds Try.pinned (OpenSpec.ofChange costSolvesSpec)

/-- ITS FALSE NEIGHBOUR: 'it returns false'. Refute it at one input. -/
def costSolvesWrong : ChangeSpec := { name := "costSolves", fn := fun _ => fun
  | [d1, d2, d3] => { results := [.lit (.bool false)], args := [d1, d2, d3] }
  | _ => none }
def CostSolvesWrongFalsely : Prop := costSolvesRow.holds Try.pinned (OpenSpec.ofChange costSolvesWrong)

/-- 'compasslaw14.CostTurns': WHATEVER THE INPUT: true; the input reads as it did. -/
def costTurnsSpec : ChangeSpec := { name := "costTurns", fn := fun _ => fun
  | [d1, d2, d3] => { results := [.lit (.bool true)], args := [d1, d2, d3] }
  | _ => none }
def costTurnsRow : OpenClaim := { program := "ytkdnnfpmppmmcaa", sum := "c3b4f419e801dbbf8ffd411c99ef724c2227302bde420af6bcaffc5aed7cc46d", func := "compass/compasslaw14.CostTurns", spec := "costTurns", unfollowed := true, recurses := true, apart := false }
def CostTurnsSaid : Prop := costTurnsRow.holds Try.pinned (OpenSpec.ofChange costTurnsSpec)

/-- ITS FALSE NEIGHBOUR: 'it returns false'. Refute it at one input. -/
def costTurnsWrong : ChangeSpec := { name := "costTurns", fn := fun _ => fun
  | [d1, d2, d3] => { results := [.lit (.bool false)], args := [d1, d2, d3] }
  | _ => none }
def CostTurnsWrongFalsely : Prop := costTurnsRow.holds Try.pinned (OpenSpec.ofChange costTurnsWrong)

/-- 'compasslaw14.CostAdds': WHATEVER THE INPUT: true; the input reads as it did. -/
def costAddsSpec : ChangeSpec := { name := "costAdds", fn := fun _ => fun
  | [d1, d2] => { results := [.lit (.bool true)], args := [d1, d2] }
  | _ => none }
def costAddsRow : OpenClaim := { program := "ytkdnnfpmppmmcaa", sum := "c3b4f419e801dbbf8ffd411c99ef724c2227302bde420af6bcaffc5aed7cc46d", func := "compass/compasslaw14.CostAdds", spec := "costAdds", unfollowed := true, recurses := true, apart := false }
def CostAddsSaid : Prop := costAddsRow.holds Try.pinned (OpenSpec.ofChange costAddsSpec)

/-- ITS FALSE NEIGHBOUR: 'it returns false'. Refute it at one input. -/
def costAddsWrong : ChangeSpec := { name := "costAdds", fn := fun _ => fun
  | [d1, d2] => { results := [.lit (.bool false)], args := [d1, d2] }
  | _ => none }
def CostAddsWrongFalsely : Prop := costAddsRow.holds Try.pinned (OpenSpec.ofChange costAddsWrong)

/-- 'compasslaw14.CostKeeps': WHATEVER THE INPUT: true; the input reads as it did. -/
def costKeepsSpec : ChangeSpec := { name := "costKeeps", fn := fun _ => fun
  | [d1, d2, d3] => { results := [.lit (.bool true)], args := [d1, d2, d3] }
  | _ => none }
def costKeepsRow : OpenClaim := { program := "ytkdnnfpmppmmcaa", sum := "c3b4f419e801dbbf8ffd411c99ef724c2227302bde420af6bcaffc5aed7cc46d", func := "compass/compasslaw14.CostKeeps", spec := "costKeeps", unfollowed := true, recurses := true, apart := false }
def CostKeepsSaid : Prop := costKeepsRow.holds Try.pinned (OpenSpec.ofChange costKeepsSpec)

/-- ITS FALSE NEIGHBOUR: 'it returns false'. Refute it at one input. -/
def costKeepsWrong : ChangeSpec := { name := "costKeeps", fn := fun _ => fun
  | [d1, d2, d3] => { results := [.lit (.bool false)], args := [d1, d2, d3] }
  | _ => none }
def CostKeepsWrongFalsely : Prop := costKeepsRow.holds Try.pinned (OpenSpec.ofChange costKeepsWrong)

/-- 'compasslaw14.CostProved': WHATEVER THE INPUT: true; the input reads as it did. -/
def costProvedSpec : ChangeSpec := { name := "costProved", fn := fun _ => fun
  | [d1, d2] => { results := [.lit (.bool true)], args := [d1, d2] }
  | _ => none }
def costProvedRow : OpenClaim := { program := "ytkdnnfpmppmmcaa", sum := "c3b4f419e801dbbf8ffd411c99ef724c2227302bde420af6bcaffc5aed7cc46d", func := "compass/compasslaw14.CostProved", spec := "costProved", unfollowed := true, recurses := true, apart := false }
def CostProvedSaid : Prop := costProvedRow.holds Try.pinned (OpenSpec.ofChange costProvedSpec)

/-- ITS FALSE NEIGHBOUR: 'it returns false'. Refute it at one input. -/
def costProvedWrong : ChangeSpec := { name := "costProved", fn := fun _ => fun
  | [d1, d2] => { results := [.lit (.bool false)], args := [d1, d2] }
  | _ => none }
def CostProvedWrongFalsely : Prop := costProvedRow.holds Try.pinned (OpenSpec.ofChange costProvedWrong)

/-- 'compasstop.WholeReturn': WHATEVER THE INPUT: true; the input reads as it did. -/
def wholeReturnSpec : ChangeSpec := { name := "wholeReturn", fn := fun _ => fun
  | [d1, d2, d3] => { results := [.lit (.bool true)], args := [d1, d2, d3] }
  | _ => none }
def wholeReturnRow : OpenClaim := { program := "ytkdnnfpmppmmcaa", sum := "c3b4f419e801dbbf8ffd411c99ef724c2227302bde420af6bcaffc5aed7cc46d", func := "compass/compasstop.WholeReturn", spec := "wholeReturn", unfollowed := true, recurses := true, apart := false }
def WholeReturnSaid : Prop := wholeReturnRow.holds Try.pinned (OpenSpec.ofChange wholeReturnSpec)

/-- ITS FALSE NEIGHBOUR: 'it returns false'. Refute it at one input. -/
def wholeReturnWrong : ChangeSpec := { name := "wholeReturn", fn := fun _ => fun
  | [d1, d2, d3] => { results := [.lit (.bool false)], args := [d1, d2, d3] }
  | _ => none }
def WholeReturnWrongFalsely : Prop := wholeReturnRow.holds Try.pinned (OpenSpec.ofChange wholeReturnWrong)

/-- 'compasstop.WholeMet': WHATEVER THE INPUT: true; the input reads as it did. -/
def wholeMetSpec : ChangeSpec := { name := "wholeMet", fn := fun _ => fun
  | [d1, d2, d3] => { results := [.lit (.bool true)], args := [d1, d2, d3] }
  | _ => none }
def wholeMetRow : OpenClaim := { program := "ytkdnnfpmppmmcaa", sum := "c3b4f419e801dbbf8ffd411c99ef724c2227302bde420af6bcaffc5aed7cc46d", func := "compass/compasstop.WholeMet", spec := "wholeMet", unfollowed := true, recurses := true, apart := false }
def WholeMetSaid : Prop := wholeMetRow.holds Try.pinned (OpenSpec.ofChange wholeMetSpec)

/-- ITS FALSE NEIGHBOUR: 'it returns false'. Refute it at one input. -/
def wholeMetWrong : ChangeSpec := { name := "wholeMet", fn := fun _ => fun
  | [d1, d2, d3] => { results := [.lit (.bool false)], args := [d1, d2, d3] }
  | _ => none }
def WholeMetWrongFalsely : Prop := wholeMetRow.holds Try.pinned (OpenSpec.ofChange wholeMetWrong)

/- THE SECOND FORM. 'bulk': how many values and letters a reading holds, each counted each time it is reached (what is shared counts as often as it is met; a slice's spare places count too). A statement '..UptoSaid' is the law's where the arguments, and the package variables that the reading takes, are together of bulk at most 1048576: NARROWER than '..Said'. Prove '..Said' where nothing that the law and all that it calls make is longer than what came in: it says more and counts as full. Else prove '..UptoSaid'. A law counts once. -/
mutual
def uptoBulk {H : Type} : DataW H → Nat
  | .lit (.string bytes) => bytes.length + 1
  | .lit _ => 1
  | .nil => 1
  | .ptr d => uptoBulk d + 1
  | .slice elems spare => uptoBulkAll elems + uptoBulkAll spare + 1
  | .agg parts => uptoBulkAll parts + 1
  | .iface _ d => uptoBulk d + 1
  | .map entries => uptoBulkEntries entries + 1
  | .held _ => 1
def uptoBulkAll {H : Type} : List (DataW H) → Nat
  | [] => 0
  | d :: r => uptoBulk d + uptoBulkAll r
def uptoBulkEntries {H : Type} : List (Lit × DataW H) → Nat
  | [] => 0
  | x :: r => uptoBulkEntry x + uptoBulkEntries r
def uptoBulkEntry {H : Type} : Lit × DataW H → Nat
  | (.string bytes, d) => bytes.length + uptoBulk d + 1
  | (_, d) => uptoBulk d + 1
 end
def uptoSmall : (H : Type) → List (DataW H) → Bool := fun _ ds => decide (uptoBulkAll ds ≤ 1048576)
def OpenSpec.upto (s : _root_.Go.ChangeSpec) : _root_.Go.OpenSpec := { _root_.Go.OpenSpec.ofChange s with cond := some uptoSmall }

/-- 'compasslaw14.CostSolves', WHERE WHAT IT READS IS OF BULK AT MOST 1048576: true; the input reads as it did. -/
def costSolvesUptoRow : OpenClaim := { program := "ytkdnnfpmppmmcaa", sum := "c3b4f419e801dbbf8ffd411c99ef724c2227302bde420af6bcaffc5aed7cc46d", func := "compass/compasslaw14.CostSolves", spec := "costSolves", unfollowed := true, recurses := true, apart := false, narrowed := true }
def CostSolvesUptoSaid : Prop := costSolvesUptoRow.holds Try.pinned (OpenSpec.upto costSolvesSpec)

/-- 'compasslaw14.CostTurns', WHERE WHAT IT READS IS OF BULK AT MOST 1048576: true; the input reads as it did. -/
def costTurnsUptoRow : OpenClaim := { program := "ytkdnnfpmppmmcaa", sum := "c3b4f419e801dbbf8ffd411c99ef724c2227302bde420af6bcaffc5aed7cc46d", func := "compass/compasslaw14.CostTurns", spec := "costTurns", unfollowed := true, recurses := true, apart := false, narrowed := true }
def CostTurnsUptoSaid : Prop := costTurnsUptoRow.holds Try.pinned (OpenSpec.upto costTurnsSpec)

/-- 'compasslaw14.CostAdds', WHERE WHAT IT READS IS OF BULK AT MOST 1048576: true; the input reads as it did. -/
def costAddsUptoRow : OpenClaim := { program := "ytkdnnfpmppmmcaa", sum := "c3b4f419e801dbbf8ffd411c99ef724c2227302bde420af6bcaffc5aed7cc46d", func := "compass/compasslaw14.CostAdds", spec := "costAdds", unfollowed := true, recurses := true, apart := false, narrowed := true }
def CostAddsUptoSaid : Prop := costAddsUptoRow.holds Try.pinned (OpenSpec.upto costAddsSpec)

/-- 'compasslaw14.CostKeeps', WHERE WHAT IT READS IS OF BULK AT MOST 1048576: true; the input reads as it did. -/
def costKeepsUptoRow : OpenClaim := { program := "ytkdnnfpmppmmcaa", sum := "c3b4f419e801dbbf8ffd411c99ef724c2227302bde420af6bcaffc5aed7cc46d", func := "compass/compasslaw14.CostKeeps", spec := "costKeeps", unfollowed := true, recurses := true, apart := false, narrowed := true }
def CostKeepsUptoSaid : Prop := costKeepsUptoRow.holds Try.pinned (OpenSpec.upto costKeepsSpec)

/-- 'compasslaw14.CostProved', WHERE WHAT IT READS IS OF BULK AT MOST 1048576: true; the input reads as it did. -/
def costProvedUptoRow : OpenClaim := { program := "ytkdnnfpmppmmcaa", sum := "c3b4f419e801dbbf8ffd411c99ef724c2227302bde420af6bcaffc5aed7cc46d", func := "compass/compasslaw14.CostProved", spec := "costProved", unfollowed := true, recurses := true, apart := false, narrowed := true }
def CostProvedUptoSaid : Prop := costProvedUptoRow.holds Try.pinned (OpenSpec.upto costProvedSpec)

/-- 'compasstop.WholeReturn', WHERE WHAT IT READS IS OF BULK AT MOST 1048576: true; the input reads as it did. -/
def wholeReturnUptoRow : OpenClaim := { program := "ytkdnnfpmppmmcaa", sum := "c3b4f419e801dbbf8ffd411c99ef724c2227302bde420af6bcaffc5aed7cc46d", func := "compass/compasstop.WholeReturn", spec := "wholeReturn", unfollowed := true, recurses := true, apart := false, narrowed := true }
def WholeReturnUptoSaid : Prop := wholeReturnUptoRow.holds Try.pinned (OpenSpec.upto wholeReturnSpec)

/-- 'compasstop.WholeMet', WHERE WHAT IT READS IS OF BULK AT MOST 1048576: true; the input reads as it did. -/
def wholeMetUptoRow : OpenClaim := { program := "ytkdnnfpmppmmcaa", sum := "c3b4f419e801dbbf8ffd411c99ef724c2227302bde420af6bcaffc5aed7cc46d", func := "compass/compasstop.WholeMet", spec := "wholeMet", unfollowed := true, recurses := true, apart := false, narrowed := true }
def WholeMetUptoSaid : Prop := wholeMetUptoRow.holds Try.pinned (OpenSpec.upto wholeMetSpec)

end Rows
end Go.Proofs.Ytkdnnfpmppmmcaa
