/- Proved here: whatever the graph, the labels (costs as the bits of float64, supplies, a power of two) and the kind, compasstop.WholeScaled answers true, and its arguments read as before; the table math/bits.deBruijn64tab holds, when the call begins, what the card ties to the program's text. Conditions: that table alone. -/
import Derived.Test.YtjlojokockfapaaGreatDoorCards
import Derived.Test.YtjlojokockfapaaGreatDoorTie
import Derived.Test.YtjlojokockfapaaGreatDoorWX6
import Derived.Deep.DeepHandedRow
import Derived.Lib.LaidTab
/-! The row and the card of WholeScaled. -/
namespace Go.Proofs.YtjlojokockfapaaGreatDoor
open Go Go.ChangeShapes Go.WideShapes Go.ChangeAt Go.RowKit
set_option linter.unusedVariables false

theorem gTab : Tryz.prog.globalNamed "math/bits.deBruijn64tab" = some 1 := by kernel_rfl
theorem gTabType : (Tryz.prog.globals[1]?).map (·.type) = some 105 := by kernel_rfl
def tabZ : List Int := [0, 1, 56, 2, 57, 49, 28, 3, 61, 58, 42, 50, 38, 29, 17, 4, 62, 47, 59, 36, 45, 43, 51, 22, 53, 39, 33, 30, 24, 18, 12, 5,
  63, 55, 48, 27, 60, 41, 37, 16, 46, 35, 44, 21, 52, 32, 23, 11, 54, 26, 40, 15, 34, 20, 31, 10, 25, 14, 19, 9, 13, 8, 7, 6]
theorem table {W : World} (h : laidMetH Tryz.prog Rows.wholeScaledRow.laid W) : Lib.TabIs Tryz.prog W "math/bits.deBruijn64tab" .u8 tabZ :=
  Lib.tabIs_of_head (rest := []) gTab gTabType (by kernel_rfl : Tryz.prog.underlying 105 = some (.array 64 5)) (by kernel_rfl : Tryz.prog.underlying 5 = some (.int .u8)) (by kernel_rfl) (by kernel_rfl) h
theorem tabZ_at : ∀ i, i < 64 → tabZ.getD i 0 = ((Lib.deBruijn64tab.getD i 0 : Nat) : Int) := by decide
theorem tab_of {W : World} (h : laidMetH Tryz.prog Rows.wholeScaledRow.laid W) : Tab (hOf W) := fun j hj => by
  have := (table h).cell gTab j (by show j < tabZ.length; exact hj)
  rw [tabZ_at j hj] at this
  exact hOf_cell this

/-- A world for the witness: the settled one, the table holding what its initialiser lays. -/
noncomputable def laidWorld (os : Os) : World :=
  { World.holding Tryz.prog os ⟨#[], #[], []⟩ with heap := (World.holding Tryz.prog os ⟨#[], #[], []⟩).heap.modify 1 fun
      | .cells _ t frozen => .cells ⟨tabZ.map fun z => Value.int .u8 z⟩ t frozen
      | o => o }
def zeroArgs : Array Value := #[.agg #[.int .i64 0, .slice none 0 0], .agg #[.slice none 0 0, .slice none 0 0, .int .i64 0], .int .i64 0]
theorem laid_met (os : Os) : laidMet Tryz.prog Rows.wholeScaledRow.laid ((laidWorld os).forCall (fun _ _ => 0) ⟨#[], zeroArgs, []⟩).memory :=
  laidMet_of_run' 8 (by kernel_rfl) (by kernel_rfl)
theorem reads (os : Os) {H : Type} (enc : TypeId × Value → H) : ∃ x, DataW.whole enc Tryz.prog ((laidWorld os).forCall (fun _ _ => 0) ⟨#[], zeroArgs, []⟩).memory Tryz.f3.params.toList Rows.wholeScaledSpec.vars false zeroArgs.toList 8 = some x :=
  Option.isSome_iff_exists.1 (by kernel_rfl)

set_option maxRecDepth 100000 in
theorem WholeScaled_lifted (os : Os) (started : os.Started) (K : Type) (enc : TypeId × Value → K) (F : Stop.Interp) :
    ReturnsInHanded {} Tryz.checked os 3 .any ((OpenSpec.ofChange Rows.wholeScaledSpec).preRow enc Tryz.prog Tryz.f3 Rows.wholeScaledRow.domain false Rows.wholeScaledRow.laid) (((OpenSpec.ofChange Rows.wholeScaledSpec).at F).post enc Tryz.prog Tryz.f3 false true false false) := by
  obtain ⟨x, hx⟩ := reads os enc
  refine returnsInHanded_of_row (C := Tryz.checked) (s := OpenSpec.ofChange Rows.wholeScaledSpec) own started (by kernel_rfl) Tryz.func3
    (witness_row_at (enc := enc) (C := Tryz.checked) false (laidWorld os) zeroArgs rfl (by kernel_rfl) (by kernel_rfl) (by kernel_rfl)
      (OpenSpec.preRow_of_cond 8 hx (by rfl) (fun k hk => by cases hk) (by kernel_rfl) (laid_met os))) ?_
  intro W base args ds gs before hval0 hW _ _ hsz0 hL _ _
  have hsz : (DataW.weightsEach Tryz.prog (Tryz.f3.params.toList ++ Rows.wholeScaledSpec.plain.varTypes Tryz.prog) (ds ++ gs)).all (· ≤ reachBytes) = true := hsz0
  have hval : ∀ (j : Nat) t v, Tryz.f3.params[j]? = some t → args[j]? = some v → Value.okWide Tryz.prog W .any base t v := hval0
  have hW' := hW
  obtain ⟨p, q, hA0, hV, rfl, hfz, hnd⟩ := hW
  have hA : DataW.TrodAll enc Tryz.prog W 0 (fun _ => true) true Tryz.f3.params.toList args.toList ds p := hA0
  rw [Tryz.params3] at hA hval hsz
  obtain ⟨v0, vs0, d0, ds0, p0, q0, hargs, rfl, rfl, h0, r0⟩ := trodAll_cons hA
  obtain ⟨v1, vs1, d1, ds1, p1, q1, rfl, rfl, rfl, h1, r1⟩ := trodAll_cons r0
  obtain ⟨v2, vs2, d2, ds2, p2, q2, rfl, rfl, rfl, h2, r2⟩ := trodAll_cons r1
  obtain ⟨rfl, rfl, rfl⟩ := trodAll_nil r2
  obtain rfl : args = #[v0, v1, v2] := by cases args; simp_all
  obtain ⟨rfl, rfl⟩ := trodVars_none hV
  have k0 := h0
  have lt0 : ∀ x ∈ p0, x.block < W.heap.size := by obtain ⟨m, hm⟩ := k0; exact DataW.trod_lt m _ _ _ hm
  obtain ⟨w00, w01, y00, y01, nn0, rfl, rfl, t00, t01⟩ := open_struct2 Tryz.underlying24 (by kernel_rfl) (by kernel_rfl) (hval 0 24 v0 rfl rfl) h0
  obtain ⟨n0, e0, _, _⟩ := DataW.trod_int (by kernel_rfl : Tryz.prog.underlying 3 = some (.int .i64)) t00
  have z0 : ∀ el sp, y01.1 = .slice el sp → (el.length + sp.length) * 32 ≤ 140737488351232 := fun el sp hh => by
    have := of_decide_eq_true (List.all_eq_true.1 hsz ((el.length + sp.length) * Tryz.prog.bytesOf 43) (by simp [DataW.weights, DataW.weightsEach, Tryz.underlying24, Tryz.underlying22, hh]))
    rwa [(by kernel_rfl : Tryz.prog.bytesOf 43 = 32)] at this
  obtain ⟨a0, len0, cap0, c0, b0, cells0⟩ := open_recsN Tryz.underlying22 Tryz.underlying43 (by kernel_rfl) (by kernel_rfl) (by kernel_rfl) (B := 32) (by kernel_rfl) z0 t01
  simp only [List.cons.injEq, and_true] at e0 c0
  subst e0 c0
  obtain ⟨es0, S0⟩ := Gs.of_cells (cap := cap0) cells0
  have k1 := h1
  have lt1 : ∀ x ∈ p1, x.block < W.heap.size := by obtain ⟨m, hm⟩ := k1; exact DataW.trod_lt m _ _ _ hm
  obtain ⟨w10, w11, w12, y10, y11, y12, nn1, rfl, rfl, t10, t11, t12⟩ := open_struct3 Tryz.underlying28 (by kernel_rfl) (by kernel_rfl) (hval 1 28 v1 rfl rfl) h1
  obtain ⟨ad1a, len1a, cap1a, c1a, cells1a⟩ := open_words Tryz.underlying25 (by kernel_rfl : Tryz.prog.underlying 33 = some (.int .u64)) (by kernel_rfl) t10
  simp only [List.cons.injEq, and_true] at c1a
  subst c1a
  obtain ⟨bg1, S1a, rg1a⟩ := RS.of_words (cap := cap1a) cells1a
  have z1b : ∀ el sp, y11.1 = .slice el sp → (el.length + sp.length) * 8 ≤ 140737488351232 := fun el sp hh => by
    have := of_decide_eq_true (List.all_eq_true.1 hsz ((el.length + sp.length) * Tryz.prog.bytesOf 2) (by simp [DataW.weights, DataW.weightsEach, Tryz.underlying28, Tryz.underlying26, hh]))
    rwa [(by kernel_rfl : Tryz.prog.bytesOf 2 = 8)] at this
  obtain ⟨ad1b, len1b, cap1b, c1b, b1b, cells1b⟩ := open_intsN Tryz.underlying26 (by kernel_rfl : Tryz.prog.underlying 2 = some (.int .i64)) (by kernel_rfl) (B := 8) (by kernel_rfl) z1b t11
  simp only [List.cons.injEq, and_true] at c1b
  subst c1b
  obtain ⟨bf1b, S1b, rg1b⟩ := RS.of_cells (cap := cap1b) cells1b
  obtain ⟨a1, e12, _, wf1⟩ := DataW.trod_int (by kernel_rfl : Tryz.prog.underlying 3 = some (.int .i64)) t12
  simp only [List.cons.injEq, and_true] at e12
  subst e12
  obtain ⟨a2, rfl, rfl, rfl, w2⟩ := open_int (by kernel_rfl : Tryz.prog.underlying 3 = some (.int .i64)) (hval 2 3 v2 rfl rfl) h2
  clear hA0 hval0 hsz0 hsz
  refine (WholeScaled_T (S0.gr n0) (by omega) S1a rg1a S1b (tab_of hL) (wf_rng wf1) a2).row.mono fun e W' ⟨he, bel⟩ => ?_
  subst he
  exact ⟨_, rfl, _, _, _, [], _, [], hW', trodAll_mk1 (shut_bool (by kernel_rfl) _), (trodAll_cons_mk (Below.trod laidOut (by kernel_rfl) (of_decide_eq_true (by kernel_rfl)) k0 bel lt0) (trodAll_cons_mk (Below.trod laidOut (by kernel_rfl) (of_decide_eq_true (by kernel_rfl)) k1 bel lt1) (trodAll_cons_mk (shut_int (by kernel_rfl) w2) trodAll_mk0))), rfl, bel.frame _, fun h => by cases h⟩

theorem WholeScaled_said : Rows.WholeScaledSaid :=
  OpenClaim.holds_of_cond 3 Tryz.f3 rfl rfl rfl rfl rfl rfl rfl ⟨rfl, rfl, rfl, rfl, rfl⟩ rfl rfl rfl rfl rfl (by kernel_rfl) Tryz.func3 (by kernel_rfl)
    (of_decide_eq_true (by kernel_rfl)) (by unfold Func.isWrapper; first | (rw [if_pos (by decide +kernel)]; kernel_rfl) | (rw [if_neg (by decide +kernel)]; exact ⟨rfl, rfl⟩))
    (fun os started H enc _ F => by rw [OpenClaim.pre_eq_preRow]; exact WholeScaled_lifted os started H enc F)

/-- No parameter wants a stand-in; the program's own looks are on: what the card asks. -/
theorem WholeScaled_plain (f : FuncId) (fn : Func) (hf : Tryz.pinned.checked.prog.funcNamed "compass/compasstop.WholeScaled" = some f) (hfn : Tryz.pinned.checked.prog.funcs[f]? = some fn) :
    true = Tryz.pinned.checked.prog.looks [] ∧ ∀ (j : Nat) t, fn.params[j]? = some t → Tryz.pinned.checked.prog.wantsStandIn t = false := by
  obtain rfl : f = 3 := Option.some.inj ((show Tryz.prog.funcNamed "compass/compasstop.WholeScaled" = some 3 by kernel_rfl).symm.trans hf) |>.symm
  obtain rfl : fn = Tryz.f3 := (Option.some.inj (Tryz.func3.symm.trans hfn)).symm
  refine ⟨by kernel_rfl, fun j t ht => ?_⟩
  rw [Tryz.params3] at ht
  have h3 := Array.mem_of_getElem? ht
  simp only [List.mem_toArray, List.mem_cons, List.not_mem_nil, or_false] at h3
  rcases h3 with rfl | rfl | rfl
  · exact (show Tryz.prog.wantsStandIn 24 = false by kernel_rfl)
  · exact (show Tryz.prog.wantsStandIn 28 = false by kernel_rfl)
  · exact (show Tryz.prog.wantsStandIn 3 = false by kernel_rfl)

theorem WholeScaled_holds : Rows.WholeScaledCardSaid :=
  Claim7.holds_tied_plain_at .later [] _ _ _ _ WholeScaled_said (fun _ h => by cases h) (by kernel_rfl) (fun _ h => by cases h) wholeScaled_row_tie rfl ⟨rfl, rfl⟩ (by kernel_rfl) rfl WholeScaled_plain (by kernel_rfl)
#print axioms WholeScaled_holds
end Go.Proofs.YtjlojokockfapaaGreatDoor
