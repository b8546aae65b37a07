import Derived.Test.YtgbmkfifjijoiaaProg
import Derived.Test.YtgbmkfifjijoiaaK18
import Derived.Test.YtgbmkfifjijoiaaR1
/-! What the rows of the forest's laws share. -/
namespace Go.Proofs.Ytgbmkfifjijoiaa
open Go Go.ChangeShapes Go.WideShapes Go.ChangeAt Go.RowKit
set_option linter.unusedVariables false

theorem own : ownKnob Try.prog.godebug = none := by kernel_rfl
theorem laidOut : laidOutB Try.prog = true := by kernel_rfl

/-- A read script is a script. -/
theorem Scr.of {W : World} {a : Option Addr} {len cap : Nat} (h : ∀ i, i < len → ∃ ad, a = some ad ∧ ∀ j, j < 4 → ∃ n : Int, W.cell? (ad.add (i * 4 + j)) = some (.int .i64 n)) :
    ∃ ops, Scr (hOf W) (.slice a len cap) len ops := by
  have h2 : ∀ i, ∃ o : Opn, i < len → ∃ ad, a = some ad ∧ hcells (hOf W) (ad.add (i * 4)) o.vs := by
    intro i
    by_cases hi : i < len
    · obtain ⟨ad, rfl, hc⟩ := h i hi
      obtain ⟨n0, h0⟩ := hc 0 (by decide)
      obtain ⟨n1, h1⟩ := hc 1 (by decide)
      obtain ⟨n2, h2⟩ := hc 2 (by decide)
      obtain ⟨n3, h3⟩ := hc 3 (by decide)
      refine ⟨⟨n0, n1, n2, n3⟩, fun _ => ⟨ad, rfl, fun j v hj => ?_⟩⟩
      rw [Go.Deep.add_add]
      match j, hj with
      | 0, hj => cases hj; exact hOf_cell h0
      | 1, hj => cases hj; exact hOf_cell h1
      | 2, hj => cases hj; exact hOf_cell h2
      | 3, hj => cases hj; exact hOf_cell h3
    · exact ⟨⟨0, 0, 0, 0⟩, fun h => absurd h hi⟩
  exact ⟨fun i => Classical.choose (h2 i), a, cap, rfl, fun i hi => Classical.choose_spec (h2 i) hi⟩

end Go.Proofs.Ytgbmkfifjijoiaa
