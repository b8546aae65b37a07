/-
  No cell of these rows narrows 'for every input' (looked for: loops, veiled, ifaces, maps, wideKeys, modest, calm, conditions, laid).
  DERIVED. THE GIVEN ROWS OF THIS SEAT. 5 by the template 'for every input the law returns true; each argument reads behind the call as it read before'; 0 by the template 'total and deterministic' (their statements: YtdblngaacnpgmaaTotals.lean).
  GIVEN WITH THE SEED: the statements are not yours to turn. If you find one false, say at which input.
  Laid BY PROGRAM, IN A SANDBOX (cutbox-rows.mjs): the forced cells as the released guide's own fill.sh prints them over the translation 63573e3077d4d1be… (all of the seat's roots in one cut). By AI agents, Wed Nov 11 2026. No macro, syntax, notation, axiom, sorry.
-/
import Derived.Test.YtdblngaacnpgmaaChecked
import GoSem.Claim
import GoSem.ClaimJoined
import GoSem.ClaimMapViews
import Derived.JoinedTies
import Derived.KernelRfl
namespace Go.Proofs.Ytdblngaacnpgmaa
/- THE CELL 'sum', in the pinned program and in every row, IS THE sha256 OF THE DUMP (.gsa) THAT YtdblngaacnpgmaaProg.lean LOADS. Nothing in Lean hashes anything: it is a label: what it is worth is what the hold of that sum in a sandbox is worth. -/
noncomputable def Try.pinned : Pinned := { name := "ytdblngaacnpgmaa", sum := "63573e3077d4d1be9761f02212fdf464a3696422bab427e5bb908213e257ba06", checked := Try.checked }
namespace Rows
def none {H : Type} : Left H := { results := [], args := [] }

/-- 'compasslaw16.AssignSolves': WHATEVER THE INPUT: true; the input reads as it did. -/
def assignSolvesSpec : ChangeSpec := { name := "assignSolves", fn := fun _ => fun
  | [d1, d2, d3] => { results := [.lit (.bool true)], args := [d1, d2, d3] }
  | _ => none }
def assignSolvesRow : OpenClaim := { program := "ytdblngaacnpgmaa", sum := "63573e3077d4d1be9761f02212fdf464a3696422bab427e5bb908213e257ba06", func := "compass/compasslaw16.AssignSolves", spec := "assignSolves", unfollowed := true, recurses := true, apart := false }
def AssignSolvesSaid : Prop := assignSolvesRow.holds Try.pinned (OpenSpec.ofChange assignSolvesSpec)

/-- ITS FALSE NEIGHBOUR: 'it returns false'. Refute it at one input. -/
def assignSolvesWrong : ChangeSpec := { name := "assignSolves", fn := fun _ => fun
  | [d1, d2, d3] => { results := [.lit (.bool false)], args := [d1, d2, d3] }
  | _ => none }
def AssignSolvesWrongFalsely : Prop := assignSolvesRow.holds Try.pinned (OpenSpec.ofChange assignSolvesWrong)

/-- 'compasslaw16.AssignTurns': WHATEVER THE INPUT: true; the input reads as it did. -/
def assignTurnsSpec : ChangeSpec := { name := "assignTurns", fn := fun _ => fun
  | [d1, d2, d3] => { results := [.lit (.bool true)], args := [d1, d2, d3] }
  | _ => none }
def assignTurnsRow : OpenClaim := { program := "ytdblngaacnpgmaa", sum := "63573e3077d4d1be9761f02212fdf464a3696422bab427e5bb908213e257ba06", func := "compass/compasslaw16.AssignTurns", spec := "assignTurns", unfollowed := true, recurses := true, apart := false }
def AssignTurnsSaid : Prop := assignTurnsRow.holds Try.pinned (OpenSpec.ofChange assignTurnsSpec)

/-- ITS FALSE NEIGHBOUR: 'it returns false'. Refute it at one input. -/
def assignTurnsWrong : ChangeSpec := { name := "assignTurns", fn := fun _ => fun
  | [d1, d2, d3] => { results := [.lit (.bool false)], args := [d1, d2, d3] }
  | _ => none }
def AssignTurnsWrongFalsely : Prop := assignTurnsRow.holds Try.pinned (OpenSpec.ofChange assignTurnsWrong)

/-- 'compasslaw16.AssignBeats': WHATEVER THE INPUT: true; the input reads as it did. -/
def assignBeatsSpec : ChangeSpec := { name := "assignBeats", fn := fun _ => fun
  | [d1, d2, d3] => { results := [.lit (.bool true)], args := [d1, d2, d3] }
  | _ => none }
def assignBeatsRow : OpenClaim := { program := "ytdblngaacnpgmaa", sum := "63573e3077d4d1be9761f02212fdf464a3696422bab427e5bb908213e257ba06", func := "compass/compasslaw16.AssignBeats", spec := "assignBeats", unfollowed := true, recurses := true, apart := false }
def AssignBeatsSaid : Prop := assignBeatsRow.holds Try.pinned (OpenSpec.ofChange assignBeatsSpec)

/-- ITS FALSE NEIGHBOUR: 'it returns false'. Refute it at one input. -/
def assignBeatsWrong : ChangeSpec := { name := "assignBeats", fn := fun _ => fun
  | [d1, d2, d3] => { results := [.lit (.bool false)], args := [d1, d2, d3] }
  | _ => none }
def AssignBeatsWrongFalsely : Prop := assignBeatsRow.holds Try.pinned (OpenSpec.ofChange assignBeatsWrong)

/-- 'compasslaw16.AssignProved': WHATEVER THE INPUT: true; the input reads as it did. -/
def assignProvedSpec : ChangeSpec := { name := "assignProved", fn := fun _ => fun
  | [d1, d2] => { results := [.lit (.bool true)], args := [d1, d2] }
  | _ => none }
def assignProvedRow : OpenClaim := { program := "ytdblngaacnpgmaa", sum := "63573e3077d4d1be9761f02212fdf464a3696422bab427e5bb908213e257ba06", func := "compass/compasslaw16.AssignProved", spec := "assignProved", unfollowed := true, recurses := true, apart := false }
def AssignProvedSaid : Prop := assignProvedRow.holds Try.pinned (OpenSpec.ofChange assignProvedSpec)

/-- ITS FALSE NEIGHBOUR: 'it returns false'. Refute it at one input. -/
def assignProvedWrong : ChangeSpec := { name := "assignProved", fn := fun _ => fun
  | [d1, d2] => { results := [.lit (.bool false)], args := [d1, d2] }
  | _ => none }
def AssignProvedWrongFalsely : Prop := assignProvedRow.holds Try.pinned (OpenSpec.ofChange assignProvedWrong)

/-- 'compasslaw16.AssignKeeps': WHATEVER THE INPUT: true; the input reads as it did. -/
def assignKeepsSpec : ChangeSpec := { name := "assignKeeps", fn := fun _ => fun
  | [d1, d2, d3] => { results := [.lit (.bool true)], args := [d1, d2, d3] }
  | _ => none }
def assignKeepsRow : OpenClaim := { program := "ytdblngaacnpgmaa", sum := "63573e3077d4d1be9761f02212fdf464a3696422bab427e5bb908213e257ba06", func := "compass/compasslaw16.AssignKeeps", spec := "assignKeeps", unfollowed := true, recurses := true, apart := false }
def AssignKeepsSaid : Prop := assignKeepsRow.holds Try.pinned (OpenSpec.ofChange assignKeepsSpec)

/-- ITS FALSE NEIGHBOUR: 'it returns false'. Refute it at one input. -/
def assignKeepsWrong : ChangeSpec := { name := "assignKeeps", fn := fun _ => fun
  | [d1, d2, d3] => { results := [.lit (.bool false)], args := [d1, d2, d3] }
  | _ => none }
def AssignKeepsWrongFalsely : Prop := assignKeepsRow.holds Try.pinned (OpenSpec.ofChange assignKeepsWrong)

/- THE SECOND FORM. 'bulk': how many values and letters a reading holds, each counted each time it is reached (what is shared counts as often as it is met; a slice's spare places count too). A statement '..UptoSaid' is the law's where the arguments, and the package variables that the reading takes, are together of bulk at most 1048576: NARROWER than '..Said'. Prove '..Said' where nothing that the law and all that it calls make is longer than what came in: it says more and counts as full. Else prove '..UptoSaid'. A law counts once. -/
mutual
def uptoBulk {H : Type} : DataW H → Nat
  | .lit (.string bytes) => bytes.length + 1
  | .lit _ => 1
  | .nil => 1
  | .ptr d => uptoBulk d + 1
  | .slice elems spare => uptoBulkAll elems + uptoBulkAll spare + 1
  | .agg parts => uptoBulkAll parts + 1
  | .iface _ d => uptoBulk d + 1
  | .map entries => uptoBulkEntries entries + 1
  | .held _ => 1
def uptoBulkAll {H : Type} : List (DataW H) → Nat
  | [] => 0
  | d :: r => uptoBulk d + uptoBulkAll r
def uptoBulkEntries {H : Type} : List (Lit × DataW H) → Nat
  | [] => 0
  | x :: r => uptoBulkEntry x + uptoBulkEntries r
def uptoBulkEntry {H : Type} : Lit × DataW H → Nat
  | (.string bytes, d) => bytes.length + uptoBulk d + 1
  | (_, d) => uptoBulk d + 1
 end
def uptoSmall : (H : Type) → List (DataW H) → Bool := fun _ ds => decide (uptoBulkAll ds ≤ 1048576)
def OpenSpec.upto (s : _root_.Go.ChangeSpec) : _root_.Go.OpenSpec := { _root_.Go.OpenSpec.ofChange s with cond := some uptoSmall }

/-- 'compasslaw16.AssignSolves', WHERE WHAT IT READS IS OF BULK AT MOST 1048576: true; the input reads as it did. -/
def assignSolvesUptoRow : OpenClaim := { program := "ytdblngaacnpgmaa", sum := "63573e3077d4d1be9761f02212fdf464a3696422bab427e5bb908213e257ba06", func := "compass/compasslaw16.AssignSolves", spec := "assignSolves", unfollowed := true, recurses := true, apart := false, narrowed := true }
def AssignSolvesUptoSaid : Prop := assignSolvesUptoRow.holds Try.pinned (OpenSpec.upto assignSolvesSpec)

/-- 'compasslaw16.AssignTurns', WHERE WHAT IT READS IS OF BULK AT MOST 1048576: true; the input reads as it did. -/
def assignTurnsUptoRow : OpenClaim := { program := "ytdblngaacnpgmaa", sum := "63573e3077d4d1be9761f02212fdf464a3696422bab427e5bb908213e257ba06", func := "compass/compasslaw16.AssignTurns", spec := "assignTurns", unfollowed := true, recurses := true, apart := false, narrowed := true }
def AssignTurnsUptoSaid : Prop := assignTurnsUptoRow.holds Try.pinned (OpenSpec.upto assignTurnsSpec)

/-- 'compasslaw16.AssignBeats', WHERE WHAT IT READS IS OF BULK AT MOST 1048576: true; the input reads as it did. -/
def assignBeatsUptoRow : OpenClaim := { program := "ytdblngaacnpgmaa", sum := "63573e3077d4d1be9761f02212fdf464a3696422bab427e5bb908213e257ba06", func := "compass/compasslaw16.AssignBeats", spec := "assignBeats", unfollowed := true, recurses := true, apart := false, narrowed := true }
def AssignBeatsUptoSaid : Prop := assignBeatsUptoRow.holds Try.pinned (OpenSpec.upto assignBeatsSpec)

/-- 'compasslaw16.AssignProved', WHERE WHAT IT READS IS OF BULK AT MOST 1048576: true; the input reads as it did. -/
def assignProvedUptoRow : OpenClaim := { program := "ytdblngaacnpgmaa", sum := "63573e3077d4d1be9761f02212fdf464a3696422bab427e5bb908213e257ba06", func := "compass/compasslaw16.AssignProved", spec := "assignProved", unfollowed := true, recurses := true, apart := false, narrowed := true }
def AssignProvedUptoSaid : Prop := assignProvedUptoRow.holds Try.pinned (OpenSpec.upto assignProvedSpec)

/-- 'compasslaw16.AssignKeeps', WHERE WHAT IT READS IS OF BULK AT MOST 1048576: true; the input reads as it did. -/
def assignKeepsUptoRow : OpenClaim := { program := "ytdblngaacnpgmaa", sum := "63573e3077d4d1be9761f02212fdf464a3696422bab427e5bb908213e257ba06", func := "compass/compasslaw16.AssignKeeps", spec := "assignKeeps", unfollowed := true, recurses := true, apart := false, narrowed := true }
def AssignKeepsUptoSaid : Prop := assignKeepsUptoRow.holds Try.pinned (OpenSpec.upto assignKeepsSpec)

end Rows
end Go.Proofs.Ytdblngaacnpgmaa
