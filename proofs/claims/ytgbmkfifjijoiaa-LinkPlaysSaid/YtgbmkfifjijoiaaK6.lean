import Derived.Test.YtgbmkfifjijoiaaK5
/-! What rotate keeps. -/
namespace Go.Proofs.Ytgbmkfifjijoiaa
open Go
set_option linter.unusedVariables false

section
variable {n : Nat} {st : St} {L : Nat → List Nat} {par tv pd : Nat → Int}

theorem rot1_eq (I : Inv n st L par tv pd) (F : Fst n par tv) {v u : Nat} (hun : u < n) {w : Nat} (hw : w < n) (j : Nat) :
    rot1 st v u w j = if j < 2 ∧ st w j = u then (v : Int) else st w j := by
  have key : j < 2 → st w j = u → st u 2 = w ∧ Ch st w u := by
    intro hj h
    have hc : Ch st w u := by
      have : j = 0 ∨ j = 1 := by omega
      rcases this with rfl | rfl
      · exact .inl h
      · exact .inr h
    exact ⟨(I.ch w u hw hc).2, hc⟩
  unfold rot1
  cases ht : topS st u with
  | true =>
    rw [if_pos rfl, if_neg]
    rintro ⟨hj, h⟩
    obtain ⟨k1, k2⟩ := key hj h
    exact topS_iff.1 ht w k1 k2
  | false =>
    rw [if_neg (by decide)]
    obtain ⟨g, hg, hcg⟩ := topS_false ht
    rw [hg, Int.toNat_natCast]
    by_cases h0 : st g 0 = u
    · rw [if_pos h0]
      unfold upd2
      by_cases e : w = g ∧ j = 0
      · rw [if_pos e, if_pos]
        obtain ⟨rfl, rfl⟩ := e
        exact ⟨by decide, h0⟩
      · rw [if_neg e, if_neg]
        rintro ⟨hj, h⟩
        obtain ⟨k1, k2⟩ := key hj h
        have ew : w = g := by omega
        subst ew
        have ej : j = 1 := by
          have : ¬ j = 0 := fun h => e ⟨rfl, h⟩
          omega
        subst ej
        exact I.lr F hw h0 h
    · rw [if_neg h0]
      have h1 : st g 1 = u := hcg.resolve_left h0
      unfold upd2
      by_cases e : w = g ∧ j = 1
      · rw [if_pos e, if_pos]
        obtain ⟨rfl, rfl⟩ := e
        exact ⟨by decide, h1⟩
      · rw [if_neg e, if_neg]
        rintro ⟨hj, h⟩
        obtain ⟨k1, k2⟩ := key hj h
        have ew : w = g := by omega
        subst ew
        have ej : j = 0 := by
          have : ¬ j = 1 := fun h => e ⟨rfl, h⟩
          omega
        subst ej
        exact h0 h

/-- s: the side of u on which v hangs; o: the other. -/
structure Side (st : St) (u v s o : Nat) : Prop where
  so : (s = 0 ∧ o = 1) ∨ (s = 1 ∧ o = 0)
  at_ : st u s = v

theorem Side.ch {st : St} {u v s o : Nat} (h : Side st u v s o) {x y : Nat} : Ch st x y ↔ st x s = y ∨ st x o = y := by
  unfold Ch
  rcases h.so with ⟨rfl, rfl⟩ | ⟨rfl, rfl⟩
  · exact Iff.rfl
  · exact Or.comm

/-- What rotate does to the pointers. -/
structure RotE (n : Nat) (st st' : St) (v u s o : Nat) : Prop where
  es : ∀ w, w < n → st' w s = if w = u then st v o else if st w s = u then (v : Int) else st w s
  eo : ∀ w, w < n → st' w o = if w = v then (u : Int) else if st w o = u then (v : Int) else st w o
  e2 : ∀ w, w < n → st' w 2 = if w = u then (v : Int) else if w = v then st u 2 else if st v o = w then (u : Int) else st w 2
  e3 : ∀ w, w < n → ∀ j, 3 ≤ j → j ≠ 4 → st' w j = st w j

theorem rotL_eq (I : Inv n st L par tv pd) (F : Fst n par tv) {v u s o : Nat} (hv : v < n) (hun : u < n) (hs : Side st u v s o) :
    RotE n st (rotL st v u) v u s o ∧ inner (rot2 (rot1 st v u) v u) v u = st v o ∧ ∀ w, w < n → rotL st v u w 4 = st w 4 := by
  have hc : Ch st u v := hs.ch.2 (.inl hs.at_)
  have ne : v ≠ u := I.chNe hun hc
  have r1 := fun w (hw : w < n) j => rot1_eq I F (v := v) hun hw j
  have nuu : ∀ j, j < 2 → st u j ≠ u := by
    intro j hj h
    have : j = 0 ∨ j = 1 := by omega
    rcases this with rfl | rfl
    · exact I.chNe hun (.inl h) rfl
    · exact I.chNe hun (.inr h) rfl
  have nvu : ∀ j, j < 2 → st v j ≠ u := by
    intro j hj h
    have hcv : Ch st v u := by
      have : j = 0 ∨ j = 1 := by omega
      rcases this with rfl | rfl
      · exact .inl h
      · exact .inr h
    have := I.len hv hcv
    have := I.len hun hc
    omega
  have nlr := I.lr F hun (c := v)
  have r2 : ∀ w, w < n → ∀ j, rot2 (rot1 st v u) v u w j = if j = 2 then (if w = u then (v : Int) else if w = v then st u 2 else st w 2) else if j < 2 ∧ st w j = u then (v : Int) else st w j := by
    intro w hw j
    unfold rot2 upd2
    rw [r1 w hw j, r1 u hun 2]
    by_cases e : j = 2
    · subst e
      simp
    · simp [e]
  have ru0 : rot2 (rot1 st v u) v u u 0 = st u 0 := by
    rw [r2 u hun]; simp [nuu 0 (by decide)]
  have ru1 : rot2 (rot1 st v u) v u u 1 = st u 1 := by
    rw [r2 u hun]; simp [nuu 1 (by decide)]
  have rv0 : rot2 (rot1 st v u) v u v 0 = st v 0 := by
    rw [r2 v hv]; simp [nvu 0 (by decide)]
  have rv1 : rot2 (rot1 st v u) v u v 1 = st v 1 := by
    rw [r2 v hv]; simp [nvu 1 (by decide)]
  have hin : inner (rot2 (rot1 st v u) v u) v u = st v o := by
    unfold inner
    rw [ru0, rv0, rv1]
    rcases hs.so with ⟨rfl, rfl⟩ | ⟨rfl, rfl⟩
    · rw [if_pos hs.at_]
    · rw [if_neg (fun h => nlr h hs.at_)]
  have r3 : ∀ w, w < n → ∀ j, rot3 (rot2 (rot1 st v u) v u) v u w j = if w = u ∧ j = s then st v o else if w = v ∧ j = o then (u : Int) else rot2 (rot1 st v u) v u w j := by
    intro w hw j
    unfold rot3
    rw [ru0, rv0, rv1]
    rcases hs.so with ⟨rfl, rfl⟩ | ⟨rfl, rfl⟩
    · rw [if_pos hs.at_]
      unfold upd2
      by_cases e1 : w = u ∧ j = 0
      · rw [if_pos e1, if_pos e1, if_neg (by omega)]
      · rw [if_neg e1, if_neg e1]
    · rw [if_neg (fun h => nlr h hs.at_)]
      unfold upd2
      by_cases e1 : w = u ∧ j = 1
      · rw [if_pos e1, if_pos e1, if_neg (by omega)]
      · rw [if_neg e1, if_neg e1]
  have r4 : ∀ w, w < n → ∀ j, rotL st v u w j = if st v o = w ∧ j = 2 then (u : Int) else rot3 (rot2 (rot1 st v u) v u) v u w j := by
    intro w hw j
    unfold rotL
    simp only [hin]
    unfold rot4
    by_cases h0 : 0 ≤ st v o
    · rw [if_pos h0]
      unfold upd2
      congr 1
      exact propext ⟨fun ⟨a, b⟩ => ⟨by omega, b⟩, fun ⟨a, b⟩ => ⟨by omega, b⟩⟩
    · rw [if_neg h0, if_neg (by omega)]
  have s2 : s < 2 ∧ o < 2 ∧ s ≠ o := by rcases hs.so with ⟨rfl, rfl⟩ | ⟨rfl, rfl⟩ <;> decide
  have nvo : st v o ≠ u := nvu o s2.2.1
  have nvv : st v o ≠ v := by
    intro h
    exact I.chNe hv (hs.ch.2 (.inr h)) rfl
  refine ⟨⟨?_, ?_, ?_, ?_⟩, hin, ?_⟩
  · intro w hw
    rw [r4 w hw, if_neg (by omega), r3 w hw, r2 w hw]
    have a1 : ¬ s = 2 := by omega
    have a2 : ¬ s = o := s2.2.2
    simp [a1, a2, s2.1]
  · intro w hw
    rw [r4 w hw, if_neg (by omega), r3 w hw, r2 w hw]
    have a1 : ¬ o = 2 := by omega
    have a2 : ¬ o = s := fun h => s2.2.2 h.symm
    simp [a1, a2, s2.2.1]
  · intro w hw
    rw [r4 w hw, r3 w hw, r2 w hw]
    have a1 : ¬ 2 = s := by omega
    have a2 : ¬ 2 = o := by omega
    simp only [a1, a2, and_false, if_false, and_true, if_true]
    by_cases e1 : w = u
    · subst e1; simp [nvo]
    · by_cases e2 : w = v
      · subst e2; simp [nvv]
      · simp [e1, e2]
  · intro w hw j hj j4
    rw [r4 w hw, if_neg (by omega), r3 w hw, if_neg (by omega), if_neg (by omega), r2 w hw, if_neg (by omega), if_neg (by omega)]
  · intro w hw
    rw [r4 w hw, if_neg (by omega), r3 w hw, if_neg (by omega), if_neg (by omega), r2 w hw, if_neg (by omega), if_neg (by omega)]

end
end Go.Proofs.Ytgbmkfifjijoiaa
