/- Proved here: whatever the graph, the number of nodes of its left side and the ways, compasstop.WholePairs answers true, and its arguments read as before. Conditions: none. -/
import Derived.Test.YtdcamadeblojdaaGreatRows
import Derived.Test.YtdcamadeblojdaaGreatWP6
/-! The row of WholePairs. -/
namespace Go.Proofs.YtdcamadeblojdaaGreat
open Go Go.ChangeShapes Go.WideShapes Go.ChangeAt Go.RowKit
set_option linter.unusedVariables false

set_option maxRecDepth 100000 in
theorem WholePairs_lifted (os : Os) (started : os.Started) (K : Type) (enc : TypeId × Value → K) :
    ReturnsInHanded {} Tryz.checked os 4 .any (Rows.wholePairsSpec.pre6 enc Tryz.prog Tryz.f4 Rows.wholePairsRow.domain false) (Rows.wholePairsSpec.post enc Tryz.prog Tryz.f4 false true false false) := by
  refine returnsInHanded_of_change_sized (C := Tryz.checked) own started (by kernel_rfl) Tryz.func4
    (ChangeSpec.witness6 (enc := enc) (C := Tryz.checked) false ⟨#[], #[.agg #[.int .i64 0, .slice none 0 0], .int .i64 0, .agg #[.int .i64 0, .int .i64 0]], []⟩ 8 (by kernel_rfl) (by kernel_rfl) (by kernel_rfl) (by kernel_rfl)) ?_
  intro W base args ds gs before hval0 hW hcnd hsz0 _
  have hsz : (DataW.weightsEach Tryz.prog (Tryz.f4.params.toList ++ Rows.wholePairsSpec.plain.varTypes Tryz.prog) (ds ++ gs)).all (· ≤ reachBytes) = true := hsz0
  have hval : ∀ (j : Nat) t v, Tryz.f4.params[j]? = some t → args[j]? = some v → Value.okWide Tryz.prog W .any base t v := hval0
  have hW' := hW
  obtain ⟨p, q, hA0, hV, rfl, hfz, hnd⟩ := hW
  have hA : DataW.TrodAll enc Tryz.prog W 0 (fun _ => true) true Tryz.f4.params.toList args.toList ds p := hA0
  rw [Tryz.params4] at hA hval hsz
  obtain ⟨v0, vs0, d0, ds0, p0, q0, hargs, rfl, rfl, h0, r0⟩ := trodAll_cons hA
  obtain ⟨v1, vs1, d1, ds1, p1, q1, rfl, rfl, rfl, h1, r1⟩ := trodAll_cons r0
  obtain ⟨v2, vs2, d2, ds2, p2, q2, rfl, rfl, rfl, h2, r2⟩ := trodAll_cons r1
  obtain ⟨rfl, rfl, rfl⟩ := trodAll_nil r2
  obtain rfl : args = #[v0, v1, v2] := by cases args; simp_all
  obtain ⟨rfl, rfl⟩ := trodVars_none hV
  have k0 := h0
  have lt0 : ∀ x ∈ p0, x.block < W.heap.size := by obtain ⟨m, hm⟩ := k0; exact DataW.trod_lt m _ _ _ hm
  obtain ⟨w00, w01, y00, y01, nn0, rfl, rfl, t00, t01⟩ := open_struct2 Tryz.underlying24 (by kernel_rfl) (by kernel_rfl) (hval 0 24 v0 rfl rfl) h0
  obtain ⟨n0, e0, _, _⟩ := DataW.trod_int (by kernel_rfl : Tryz.prog.underlying 3 = some (.int .i64)) t00
  have z0 : ∀ el sp, y01.1 = .slice el sp → (el.length + sp.length) * 32 ≤ 140737488351232 := fun el sp hh => by
    have := of_decide_eq_true (List.all_eq_true.1 hsz ((el.length + sp.length) * Tryz.prog.bytesOf 44) (by simp [DataW.weights, DataW.weightsEach, Tryz.underlying24, Tryz.underlying22, hh]))
    rwa [(by kernel_rfl : Tryz.prog.bytesOf 44 = 32)] at this
  obtain ⟨a0, len0, cap0, c0, b0, cells0⟩ := open_recsN Tryz.underlying22 Tryz.underlying44 (by kernel_rfl) (by kernel_rfl) (by kernel_rfl) (B := 32) (by kernel_rfl) z0 t01
  simp only [List.cons.injEq, and_true] at e0 c0
  subst e0 c0
  obtain ⟨es0, S0⟩ := Gs.of_cells (cap := cap0) cells0
  obtain ⟨a1, rfl, rfl, rfl, w1⟩ := open_int (by kernel_rfl : Tryz.prog.underlying 3 = some (.int .i64)) (hval 1 3 v1 rfl rfl) h1
  have k2 := h2
  have lt2 : ∀ x ∈ p2, x.block < W.heap.size := by obtain ⟨m, hm⟩ := k2; exact DataW.trod_lt m _ _ _ hm
  obtain ⟨a2, a2b, rfl⟩ := open_pair Tryz.underlying25 (by kernel_rfl : Tryz.prog.underlying 3 = some (.int .i64)) (by kernel_rfl) (by kernel_rfl) (hval 2 25 v2 rfl rfl) h2
  clear hA0 hval0 hsz0 hsz
  refine (WholePairs_T (S0.gr n0) a1 a2 a2b).row.mono fun e W' ⟨he, bel⟩ => ?_
  subst he
  exact ⟨_, rfl, _, _, _, [], _, [], hW', trodAll_mk1 (shut_bool (by kernel_rfl) _), (trodAll_cons_mk (Below.trod laidOut (by kernel_rfl) (of_decide_eq_true (by kernel_rfl)) k0 bel lt0) (trodAll_cons_mk (shut_int (by kernel_rfl) w1) (trodAll_cons_mk (Below.trod laidOut (by kernel_rfl) (of_decide_eq_true (by kernel_rfl)) k2 bel lt2) trodAll_mk0))), rfl, bel.frame _, fun h => by cases h⟩

theorem WholePairs_holds : Rows.WholePairsSaid :=
  OpenClaim.holds_of_wide 4 Tryz.f4 rfl rfl rfl rfl rfl rfl rfl ⟨rfl, rfl, rfl, rfl, rfl⟩ rfl rfl rfl rfl rfl (by kernel_rfl) Tryz.func4 (by kernel_rfl)
    (of_decide_eq_true (by kernel_rfl)) (by unfold Func.isWrapper; first | (rw [if_pos (by decide +kernel)]; kernel_rfl) | (rw [if_neg (by decide +kernel)]; exact ⟨rfl, rfl⟩))
    (fun os started H enc _ => WholePairs_lifted os started H enc)
#print axioms WholePairs_holds
end Go.Proofs.YtdcamadeblojdaaGreat
