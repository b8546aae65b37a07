/- Each operation comes to what 'opt' says of it. -/
import Derived.Test.YtgbmkfifjijoiaaV2
import Derived.Laws.CopyRow
import Derived.ChangeKeysEq
namespace Go.Proofs.Ytgbmkfifjijoiaa
open Go
set_option linter.unusedVariables false
set_option linter.unusedSimpArgs false

theorem hcell_sub {h : H} {w : World} (hs : Sub h w) {a : Addr} {v : Value} (hc : hcell h a = some v) : w.cell? a = some v := by
  unfold hcell at hc
  split at hc
  · rename_i c e f hb
    have := hs _ _ hb
    unfold World.cell?
    rw [this]; exact hc
  · cases hc

theorem add_zero' (a : Addr) : a.add 0 = a := by simp [Addr.add]

theorem hcells_sub {h : H} {w : World} (hs : Sub h w) {a : Addr} {vs : List Value} (hc : hcells h a vs) :
    ∀ j v, vs[j]? = some v → w.cell? (a.add j) = some v := fun j v hj => hcell_sub hs (hc j v hj)

theorem Sub.same_heap {h : H} {w w' : World} (hs : Sub h w) (he : w'.heap = w.heap) : Sub h w' := fun b o hb => by rw [he]; exact hs b o hb

theorem Sub.fresh {h : H} {w : World} (hs : Sub h w) : h w.heap.size = none := by
  cases hb : h w.heap.size with
  | none => rfl
  | some o => have := hs _ _ hb; simp at this

theorem Sub.put {h : H} {w : World} (hs : Sub h w) (o : Obj) : Sub (hput h w.heap.size o) { w with heap := w.heap.push o } := by
  intro b o' hb
  unfold hput at hb
  split at hb
  · rename_i e; subst e; cases hb; simp
  · rename_i e
    have := hs _ _ hb
    have hlt : b < w.heap.size := by
      rcases Nat.lt_or_ge b w.heap.size with h1 | h1
      · exact h1
      · rw [Array.getElem?_eq_none h1] at this; cases this
    show (w.heap.push o)[b]? = _
    rw [Array.getElem?_push, if_neg (by omega)]; exact this

theorem Sub.put_stp {h : H} {w : World} (hs : Sub h w) (o : Obj) : Stp h w (hput h w.heap.size o) { w with heap := w.heap.push o } :=
  ⟨⟨rfl, rfl, rfl⟩, by simp, fun b hb hn => ⟨by show (w.heap.push o)[b]? = _; rw [Array.getElem?_push, if_neg (by omega)], by unfold hput; rw [if_neg (by omega)]; exact hn⟩⟩

theorem setR_eq (c : Array Value) : ∀ (vs : List Value) (o : Nat) (c : Array Value), o + vs.length ≤ c.size →
    setR c o vs = (c.toList.take o ++ vs ++ c.toList.drop (o + vs.length)).toArray := by
  intro vs
  induction vs with
  | nil => intro o c _; simp [setR]
  | cons v rest ih =>
    intro o c hl
    simp only [List.length_cons] at hl
    rw [setR, ih (o + 1) (c.setIfInBounds o v) (by simp; omega)]
    congr 1
    have e := list_seg_step c.toList o v rest (by simp; omega)
    simpa [Array.toList_setIfInBounds] using e

theorem setRow_heap_other (w : World) (g : Nat) (c : Array Value) (k : Nat) (hk : k ≠ g) : (w.setRow g c).heap[k]? = w.heap[k]? := by
  simp only [World.setRow, Array.getElem?_modify]
  rw [if_neg (by omega)]

theorem hset_sub {P : Program} {h : H} {w : World} (hs : Sub h w) {a : Addr} {vs : List Value} (hw : hwr h a vs.length) (h1 : ∀ v ∈ vs, v.oneCell' = true) :
    ∃ w', (storeCells a vs).run P w = .ok () w' ∧ Sub (hset h a vs) w' ∧ Stp h w (hset h a vs) w' := by
  obtain ⟨c, e, hb, hsp, hl⟩ := hw
  obtain ⟨b, o, s⟩ := a
  simp only at hb hsp hl; subst hsp
  have hg := hs _ _ hb
  refine ⟨_, run_storeCells_at P b o e vs 0 c w hg (by simpa using hl) h1, ?_, ⟨⟨rfl, rfl, rfl⟩, by simp [World.setRow], fun k hk hn => ?_⟩⟩
  rotate_left
  · have hne : k ≠ b := fun e => by rw [e, hb] at hn; cases hn
    exact ⟨setRow_heap_other _ _ _ _ hne, by unfold hset; simp only; rw [if_neg hne]; exact hn⟩
  intro k ob hk
  unfold hset at hk
  simp only at hk
  split at hk
  · rename_i e'; subst e'
    rw [hb] at hk; simp only [Option.map_some, Option.some.injEq] at hk; subst hk
    rw [setRow_heap w _ c _ e _ hg]
    rw [setR_eq c vs o c hl]; simp
  · rename_i e'
    rw [setRow_heap_other _ _ _ _ e']
    exact hs _ _ hk

theorem cellsV_eq (v : Value) : (⟨cellsV v⟩ : Array Value) = v.cells := by
  unfold cellsV Value.cells
  split
  · rfl
  · split
    · rename_i cs h; exact absurd rfl (h cs.toList)
    · rfl

theorem zeroOf_spec {P : Program} {t : TypeId} {z : List Value} (hz : zeroOf P t = some z) :
    ∃ i v, P.info? t = some i ∧ i.zero = some v ∧ v.cells = ⟨z⟩ ∧ P.cellsOf t = i.size := by
  unfold zeroOf at hz
  cases hi : P.info? t with
  | none => simp [hi] at hz
  | some i =>
    simp only [hi] at hz
    cases hv : i.zero with
    | none => simp [hv] at hz
    | some v =>
      refine ⟨i, v, rfl, hv, ?_, by simp [Program.cellsOf, hi]⟩
      simp only [hv] at hz
      rw [← cellsV_eq]; unfold cellsV
      split at hz
      · cases hz; rename_i h; cases h; rfl
      · rename_i h1 h; cases h; cases hz
        split
        · rename_i cs; exact absurd rfl (h1 cs)
        · rfl
      · rename_i h; cases h

theorem run_zeroValue' {P : Program} {t : TypeId} {i : TypeInfo} {v : Value} (hi : P.info? t = some i) (hz : i.zero = some v) (w : World) :
    (zeroValue t).run P w = .ok v w := by simp [zeroValue, typeInfo, hi, hz]

theorem info_of_underlying {P : Program} {t : TypeId} {d : TypeDesc} (h : P.underlying t = some d) : ∃ i, P.info? t = some i := by
  unfold Program.underlying at h
  split at h
  · rename_i hi; exact ⟨_, hi⟩
  · rename_i i _ hi; exact ⟨i, hi⟩
  · cases h

theorem run_sizeOf' {P : Program} {t : TypeId} {d : TypeDesc} (h : P.underlying t = some d) (w : World) : (sizeOf t).run P w = .ok (P.cellsOf t) w := by
  obtain ⟨i, hi⟩ := info_of_underlying h
  simp [sizeOf, typeInfo, hi, Program.cellsOf]

def isAggD : TypeDesc → Bool
  | .struct _ => true
  | .array _ _ => true
  | _ => false

theorem run_isAgg' {P : Program} {t : TypeId} {d : TypeDesc} (h : P.underlying t = some d) (w : World) :
    (isAgg t).run P w = .ok (isAggD d) w := by
  simp only [isAgg, Sem.run_bind, run_underlying h, Result.andThen_ok]
  cases d <;> rfl

theorem run_load' {P : Program} {h : H} {w : World} (hs : Sub h w) {a : Addr} {v : Value} (hc : hcell h a = some v) : (load a).run P w = .ok v w := by
  rw [run_load, hcell_sub hs hc]

/-- a load comes to what 'loadP' says -/
theorem loadP_run {P : Program} {t : TypeId} {v : Value} {h : H} {K : Value → Prop} (hl : loadP P t v h K) :
    ∃ r, K r ∧ ∀ w, Sub h w → (Instr.loadAt t v).run P w = .ok r w := by
  unfold loadP ptrP at hl
  split at hl
  case h_2 => exact hl.elim
  case h_1 a =>
  cases hu : P.underlying t with
  | none => simp [hu] at hl
  | some d =>
    simp only [hu] at hl
    have key : ∀ r, hcell h a = some r → isAggD d = false → K r →
        ∃ r, K r ∧ ∀ w, Sub h w → (Instr.loadAt t (.pointer (some a))).run P w = .ok r w := fun r hc hd hk =>
      ⟨r, hk, fun w hs => by have hx := run_load' (P := P) hs hc; simp only [Instr.loadAt, Instr.sureAddr, loadVar, pure_bind, Sem.run_bind, run_isAgg' hu, Result.andThen_ok, hd, Bool.false_eq_true, if_false, hx]⟩
    have keyN : (∃ vs : List Value, vs.length = P.cellsOf t ∧ hcells h a vs ∧ K (.agg ⟨vs⟩)) → isAggD d = true →
        ∃ r, K r ∧ ∀ w, Sub h w → (Instr.loadAt t (.pointer (some a))).run P w = .ok r w := by
      rintro ⟨vs, hn, hc, hk⟩ hd
      refine ⟨_, hk, fun w hs => ?_⟩
      have hl := run_loadCells_list (P := P) w a vs (hcells_sub hs hc)
      rw [hn] at hl
      simp [Instr.loadAt, Instr.sureAddr, loadVar, run_isAgg' hu, hd, run_sizeOf' hu, hl]
    cases d <;> simp only at hl <;> first
      | (obtain ⟨n, hc, hk⟩ := hl; exact key _ hc rfl hk)
      | (exact keyN hl rfl)

theorem oneP_spec {v : Value} {K : Prop} (h : oneP v K) : v.oneCell' = true ∧ K := by
  unfold oneP at h
  split at h
  · exact h.elim
  · exact h.elim
  · rename_i h1 h2
    refine ⟨?_, h⟩
    unfold Value.oneCell'
    split
    · rename_i c; exact absurd rfl (h1 c)
    · rename_i c; exact absurd rfl (h2 c)
    · rfl

theorem aggP_spec {v : Value} {K : List Value → Prop} (h : aggP v K) : ∃ cs, v = .agg ⟨cs⟩ ∧ K cs := by
  unfold aggP at h
  split at h
  · exact ⟨_, rfl, h⟩
  · exact h.elim

theorem tupP_spec {v : Value} {K : List Value → Prop} (h : tupP v K) : ∃ cs, v = .tuple ⟨cs⟩ ∧ K cs := by
  unfold tupP at h
  split at h
  · exact ⟨_, rfl, h⟩
  · exact h.elim

theorem ptrP_spec {v : Value} {K : Addr → Prop} (h : ptrP v K) : ∃ a, v = .pointer (some a) ∧ K a := by
  unfold ptrP at h
  split at h
  · exact ⟨_, rfl, h⟩
  · exact h.elim

theorem ptrO_spec {v : Value} {K : Option Addr → Prop} (h : ptrO v K) : ∃ a, v = .pointer a ∧ K a := by
  unfold ptrO at h
  split at h
  · exact ⟨_, rfl, h⟩
  · exact h.elim

theorem slcP_spec {v : Value} {K : Option Addr → Nat → Nat → Prop} (h : slcP v K) : ∃ a l c, v = .slice a l c ∧ K a l c := by
  unfold slcP at h
  split at h
  · exact ⟨_, _, _, rfl, h⟩
  · exact h.elim

theorem intP_spec {v : Value} {K : Int → Prop} (h : intP v K) : ∃ k n, v = .int k n ∧ K n := by
  unfold intP at h
  split at h
  · exact ⟨_, _, rfl, h⟩
  · exact h.elim

theorem boolP_spec {v : Value} {K : Bool → Prop} (h : boolP v K) : ∃ b, v = .bool b ∧ K b := by
  unfold boolP at h
  split at h
  · exact ⟨_, rfl, h⟩
  · exact h.elim

theorem on_spec {α : Type} {o : Option α} {K : α → Prop} (h : on o K) : ∃ a, o = some a ∧ K a := by
  unfold on at h
  split at h
  · exact ⟨_, rfl, h⟩
  · exact h.elim

theorem cells_one {v : Value} (h : v.oneCell' = true) : v.cells = #[v] := by
  cases v <;> first | rfl | (simp [Value.oneCell'] at h)

theorem storeP_run {P : Program} {t : TypeId} {av v : Value} {h : H} {K : H → Prop} (hl : storeP P t av v h K) :
    ∃ h', K h' ∧ ∀ w, Sub h w → ∃ w', (Instr.storeAt t av v).run P w = .ok () w' ∧ Sub h' w' ∧ Stp h w h' w' := by
  unfold storeP at hl
  obtain ⟨a, e, hl'⟩ := ptrP_spec hl
  subst e; clear hl; rename _ => hl
  cases hu : P.underlying t with
  | none => simp [hu] at hl
  | some d =>
    simp only [hu] at hl
    have keyN : (aggP v fun vs => stN h a vs (P.cellsOf t) K) →
        ∃ h', K h' ∧ ∀ w, Sub h w → ∃ w', (Instr.storeAt t (.pointer (some a)) v).run P w = .ok () w' ∧ Sub h' w' ∧ Stp h w h' w' := by
      intro hl
      obtain ⟨vs, rfl, hn, h1, hw, hk⟩ := aggP_spec hl
      refine ⟨_, hk, fun w hs => ?_⟩
      obtain ⟨w', hr, hs', hm⟩ := hset_sub (P := P) hs (a := a) (vs := vs) (by rw [hn]; exact hw) h1
      refine ⟨w', ?_, hs', hm⟩
      simp [Instr.storeAt, Instr.sureAddr, storeVar, Value.cells, run_sizeOf' hu, hn, hr]
    have key : (bif Nat.beq (P.cellsOf t) 1 then oneP v (stC h a v K) else False) →
        ∃ h', K h' ∧ ∀ w, Sub h w → ∃ w', (Instr.storeAt t (.pointer (some a)) v).run P w = .ok () w' ∧ Sub h' w' ∧ Stp h w h' w' := by
      intro hl
      cases hb : Nat.beq (P.cellsOf t) 1 with
      | false => simp [hb] at hl
      | true =>
        simp only [hb, cond_true] at hl
        obtain ⟨h1, hw, hk⟩ := oneP_spec hl
        refine ⟨_, hk, fun w hs => ?_⟩
        obtain ⟨w', hr, hs', hm⟩ := hset_sub (P := P) hs (a := a) (vs := [v]) hw (by simpa using h1)
        refine ⟨w', ?_, hs', hm⟩
        have hc : P.cellsOf t = 1 := Nat.eq_of_beq_eq_true hb
        simp [Instr.storeAt, Instr.sureAddr, storeVar, cells_one h1, run_sizeOf' hu, hc, hr]
    cases d <;> simp only at hl <;> first
      | (exact keyN hl)
      | (exact key hl)

end Go.Proofs.Ytgbmkfifjijoiaa
