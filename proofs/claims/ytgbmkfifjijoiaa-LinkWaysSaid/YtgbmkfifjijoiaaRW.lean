/- Proved here: whatever the script and the node, compasslaw07.LinkWays answers true, and its arguments read as before. Conditions: none. -/
import Derived.Test.YtgbmkfifjijoiaaRows
import Derived.Test.YtgbmkfifjijoiaaK18
import Derived.Test.YtgbmkfifjijoiaaR1
/-! The row of LinkWays. -/
namespace Go.Proofs.Ytgbmkfifjijoiaa
open Go Go.ChangeShapes Go.WideShapes Go.ChangeAt Go.RowKit
set_option linter.unusedVariables false

theorem own : ownKnob Try.prog.godebug = none := by kernel_rfl
theorem laidOut : laidOutB Try.prog = true := by kernel_rfl

/-- A read script is a script. -/
theorem Scr.of {W : World} {a : Option Addr} {len cap : Nat} (h : ∀ i, i < len → ∃ ad, a = some ad ∧ ∀ j, j < 4 → ∃ n : Int, W.cell? (ad.add (i * 4 + j)) = some (.int .i64 n)) :
    ∃ ops, Scr (hOf W) (.slice a len cap) len ops := by
  have h2 : ∀ i, ∃ o : Opn, i < len → ∃ ad, a = some ad ∧ hcells (hOf W) (ad.add (i * 4)) o.vs := by
    intro i
    by_cases hi : i < len
    · obtain ⟨ad, rfl, hc⟩ := h i hi
      obtain ⟨n0, h0⟩ := hc 0 (by decide)
      obtain ⟨n1, h1⟩ := hc 1 (by decide)
      obtain ⟨n2, h2⟩ := hc 2 (by decide)
      obtain ⟨n3, h3⟩ := hc 3 (by decide)
      refine ⟨⟨n0, n1, n2, n3⟩, fun _ => ⟨ad, rfl, fun j v hj => ?_⟩⟩
      rw [Go.Deep.add_add]
      match j, hj with
      | 0, hj => cases hj; exact hOf_cell h0
      | 1, hj => cases hj; exact hOf_cell h1
      | 2, hj => cases hj; exact hOf_cell h2
      | 3, hj => cases hj; exact hOf_cell h3
    · exact ⟨⟨0, 0, 0, 0⟩, fun h => absurd h hi⟩
  exact ⟨fun i => Classical.choose (h2 i), a, cap, rfl, fun i hi => Classical.choose_spec (h2 i) hi⟩

set_option maxRecDepth 100000 in
theorem LinkWays_lifted (os : Os) (started : os.Started) (K : Type) (enc : TypeId × Value → K) :
    ReturnsInHanded {} Try.checked os 3 .any (Rows.linkWaysSpec.pre6 enc Try.prog Try.f3 Rows.linkWaysRow.domain false) (Rows.linkWaysSpec.post enc Try.prog Try.f3 false true false false) := by
  refine returnsInHanded_of_change_sized (C := Try.checked) own started (by kernel_rfl) Try.func3
    (ChangeSpec.witness6 (enc := enc) (C := Try.checked) false ⟨#[], #[.slice none 0 0, .int .i64 0], []⟩ 8 (by kernel_rfl) (by kernel_rfl) (by kernel_rfl) (by kernel_rfl)) ?_
  intro W base args ds gs before hval0 hW hcnd hsz0 _
  have hsz : (DataW.weightsEach Try.prog (Try.f3.params.toList ++ Rows.linkWaysSpec.plain.varTypes Try.prog) (ds ++ gs)).all (· ≤ reachBytes) = true := hsz0
  have hval : ∀ (j : Nat) t v, Try.f3.params[j]? = some t → args[j]? = some v → Value.okWide Try.prog W .any base t v := hval0
  have hW' := hW
  obtain ⟨p, q, hA0, hV, rfl, hfz, hnd⟩ := hW
  have hA : DataW.TrodAll enc Try.prog W 0 (fun _ => true) true Try.f3.params.toList args.toList ds p := hA0
  rw [Try.params3] at hA hval hsz
  obtain ⟨v0, vs0, d0, ds0, p0, q0, hargs, rfl, rfl, h0, r0⟩ := trodAll_cons hA
  obtain ⟨v1, vs1, d1, ds1, p1, q1, rfl, rfl, rfl, h1, r1⟩ := trodAll_cons r0
  obtain ⟨rfl, rfl, rfl⟩ := trodAll_nil r1
  obtain rfl : args = #[v0, v1] := by cases args; simp_all
  obtain ⟨rfl, rfl⟩ := trodVars_none hV
  obtain ⟨a0, len0, cap0, rfl⟩ := okWide_slice (by kernel_rfl : Try.prog.underlying 22 = some (.slice 46)) (hval 0 22 v0 rfl rfl)
  have k0 := h0
  have lt0 : ∀ x ∈ p0, x.block < W.heap.size := by obtain ⟨m, hm⟩ := k0; exact DataW.trod_lt m _ _ _ hm
  obtain ⟨y0, c0⟩ := open_recs Try.underlying22 Try.underlying46 (by kernel_rfl) (by kernel_rfl) (by kernel_rfl) (B := 32) (by kernel_rfl) hsz (j := 0) rfl rfl h0
  obtain ⟨ops0, S0⟩ := Scr.of (cap := cap0) c0
  obtain ⟨a1, rfl, rfl, rfl, w1⟩ := open_int (by kernel_rfl : Try.prog.underlying 3 = some (.int .i64)) (hval 1 3 v1 rfl rfl) h1
  clear hA0 hval0 hsz0 hsz
  refine (LinkWays_T S0 (by omega) a1).row.mono fun e W' ⟨he, bel⟩ => ?_
  subst he
  exact ⟨_, rfl, _, _, _, [], _, [], hW', trodAll_mk1 (shut_bool (by kernel_rfl) _), (trodAll_cons_mk (Below.trod laidOut (by kernel_rfl) (of_decide_eq_true (by kernel_rfl)) k0 bel lt0) (trodAll_cons_mk (shut_int (by kernel_rfl) w1) trodAll_mk0)), rfl, bel.frame _, fun h => by cases h⟩

theorem LinkWays_holds : Rows.LinkWaysSaid :=
  OpenClaim.holds_of_wide 3 Try.f3 rfl rfl rfl rfl rfl rfl rfl ⟨rfl, rfl, rfl, rfl, rfl⟩ rfl rfl rfl rfl rfl (by kernel_rfl) Try.func3 (by kernel_rfl)
    (of_decide_eq_true (by kernel_rfl)) (by unfold Func.isWrapper; first | (rw [if_pos (by decide +kernel)]; kernel_rfl) | (rw [if_neg (by decide +kernel)]; exact ⟨rfl, rfl⟩))
    (fun os started H enc _ => LinkWays_lifted os started H enc)
#print axioms LinkWays_holds
end Go.Proofs.Ytgbmkfifjijoiaa
