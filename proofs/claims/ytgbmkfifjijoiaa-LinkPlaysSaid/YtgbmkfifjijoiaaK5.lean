import Derived.Test.YtgbmkfifjijoiaaK3
import Derived.Test.YtgbmkfifjijoiaaK4
import Derived.IntWalk
/-! What push and rotate keep. -/
namespace Go.Proofs.Ytgbmkfifjijoiaa
open Go
set_option linter.unusedVariables false

instance (st : St) (u y : Nat) : Decidable (Ch st u y) := inferInstanceAs (Decidable (_ ∨ _))

theorem w64_eq (x : Int) : ∃ k : Int, w64 x = x + 18446744073709551616 * k ∧ -9223372036854775808 ≤ w64 x ∧ w64 x < 9223372036854775808 := by
  have := IntKind.wrap_i64 x
  refine ⟨(w64 x - x) / 18446744073709551616, ?_⟩
  unfold w64
  omega
theorem w64_in {x : Int} (h : -9223372036854775808 ≤ x) (k : x < 9223372036854775808) : w64 x = x := by
  obtain ⟨j, hj, _⟩ := w64_eq x
  omega
theorem w64_of {a b : Int} (h : ∃ k : Int, a = b + 18446744073709551616 * k) : w64 a = w64 b := by
  obtain ⟨k, h⟩ := h
  obtain ⟨i, hi, _⟩ := w64_eq a
  obtain ⟨j, hj, _⟩ := w64_eq b
  omega
theorem w64_cg {a b : Int} : w64 a = w64 b ↔ ∃ k : Int, a = b + 18446744073709551616 * k := by
  refine ⟨fun h => ?_, w64_of⟩
  obtain ⟨i, hi, _⟩ := w64_eq a
  obtain ⟨j, hj, _⟩ := w64_eq b
  exact ⟨j - i, by omega⟩

section
variable {n : Nat} {st : St} {L : Nat → List Nat} {par tv pd : Nat → Int}

theorem Inv.lr (I : Inv n st L par tv pd) (F : Fst n par tv) {v c : Nat} (hv : v < n) (h0 : st v 0 = c) (h1 : st v 1 = c) : False := by
  have nd := I.nodup F hv
  rw [I.ino v hv, h0, h1, LL_nat] at nd
  have hc := I.self (I.ch v c hv (.inl h0)).1
  have := (List.nodup_append.1 nd).2.2 c hc c (List.mem_cons_of_mem _ hc)
  exact this rfl
theorem Inv.chNe (I : Inv n st L par tv pd) {v c : Nat} (hv : v < n) (h : Ch st v c) : c ≠ v := by
  rintro rfl
  exact Nat.lt_irrefl _ (I.len hv h)

theorem raiseS_at {c : Nat} {x : Int} (w j : Nat) : raiseS st c x w j = if w = c ∧ (j = 3 ∨ j = 4 ∨ j = 5) then w64 (st w j + x) else st w j := by
  unfold raiseS
  rw [if_pos (Int.natCast_nonneg c), Int.toNat_natCast]
theorem raiseS_neg {c x : Int} (h : c < 0) : raiseS st c x = st := by
  unfold raiseS
  rw [if_neg (by omega)]
theorem raiseS_int {c x : Int} (w j : Nat) : raiseS st c x w j = if c = w ∧ (j = 3 ∨ j = 4 ∨ j = 5) then w64 (st w j + x) else st w j := by
  unfold raiseS
  by_cases h : 0 ≤ c
  · rw [if_pos h]
    show (if w = c.toNat ∧ _ then _ else _) = _
    congr 1
    refine propext ⟨fun ⟨a, b⟩ => ⟨by omega, b⟩, fun ⟨a, b⟩ => ⟨by omega, b⟩⟩
  · rw [if_neg h, if_neg (by omega)]

theorem pushS_eq (I : Inv n st L par tv pd) (F : Fst n par tv) {v : Nat} (hv : v < n) (w j : Nat) :
    pushS st v w j = if j = 3 ∨ j = 4 then (if Ch st v w then w64 (st w j + st v 5) else st w j)
      else if j = 5 then (if w = v then 0 else if Ch st v w then w64 (st w 5 + st v 5) else st w 5) else st w j := by
  have n0 : st v 0 ≠ v := fun h => I.chNe hv (.inl h) rfl
  have n1 : st v 1 ≠ v := fun h => I.chNe hv (.inr h) rfl
  have n2 : ∀ w : Nat, ¬ (st v 0 = w ∧ st v 1 = w) := fun w h => I.lr F hv h.1 h.2
  have n2 := n2 w
  have e1 : raiseS st (st v 0) (st v 5) v 1 = st v 1 := raiseS_link (by decide)
  have e5 : raiseS st (st v 0) (st v 5) v 5 = st v 5 := by rw [raiseS_int, if_neg (fun h => n0 h.1)]
  unfold pushS
  simp only [e1, e5]
  unfold upd2
  rw [raiseS_int, raiseS_int]
  unfold Ch
  by_cases hw : w = v
  · subst hw
    simp only [n0, n1, false_and, or_false, if_false, true_and]
    by_cases j5 : j = 5
    · subst j5; simp
    · simp [j5]
  · simp only [hw, false_and, if_false]
    by_cases h0 : st v 0 = w <;> by_cases h1 : st v 1 = w
    · exact absurd ⟨h0, h1⟩ n2
    all_goals
      by_cases j3 : j = 3
      · subst j3; simp [h0, h1]
      · by_cases j4 : j = 4
        · subst j4; simp [h0, h1]
        · by_cases j5 : j = 5
          · subst j5; simp [h0, h1]
          · simp [j3, j4, j5]
theorem pushS_link (I : Inv n st L par tv pd) (F : Fst n par tv) {v : Nat} (hv : v < n) (w : Nat) {j : Nat} (hj : j < 3) : pushS st v w j = st w j := by
  rw [pushS_eq I F hv, if_neg (by omega), if_neg (by omega)]

theorem Ch.congr {st st' : St} (h : ∀ w j, j < 3 → st' w j = st w j) {u y : Nat} : Ch st' u y ↔ Ch st u y := by
  unfold Ch; rw [h u 0 (by decide), h u 1 (by decide)]
theorem Top.congr {st st' : St} (h : ∀ w j, j < 3 → st' w j = st w j) {v : Nat} : Top st' v ↔ Top st v := by
  unfold Top
  rw [h v 2 (by decide)]
  exact forall_congr' fun u => imp_congr_right fun _ => not_congr (Ch.congr h)

def pdPush (st : St) (pd : Nat → Int) (v : Nat) : Nat → Int := fun w => if Ch st v w then pd v else pd w

theorem Inv.push (I : Inv n st L par tv pd) (F : Fst n par tv) {v : Nat} (hv : v < n) : Inv n (pushS st v) L par tv (pdPush st pd v) := by
  have lk : ∀ w j, j < 3 → pushS st v w j = st w j := fun w j hj => pushS_link I F hv w hj
  have cv : ∀ y, Ch st v y → w64 (pd y) = w64 (pd v + st v 5) := fun y hy => I.pdc v y hv hy
  refine ⟨?_, ?_, ?_, I.chn, ?_, ?_, ?_, ?_, ?_⟩
  · intro u y hu h
    have := I.ch u y hu ((Ch.congr lk).1 h)
    rw [lk _ _ (by decide)]
    exact this
  · intro w hw
    rw [lk _ _ (by decide)]
    exact I.up w hw
  · intro w hw
    rw [lk _ _ (by decide), lk _ _ (by decide)]
    exact I.ino w hw
  · intro w hw h
    rw [lk _ _ (by decide)]
    exact I.hd w hw ((Top.congr lk).1 h)
  · intro w hw h
    have h := (Top.congr lk).1 h
    unfold pdPush
    rw [if_neg]
    · exact I.pdt w hw h
    · intro hc
      exact h v (I.ch v w hv hc).2 hc
  · intro u y hu h
    replace h := (Ch.congr lk).1 h
    have hy := I.ch u y hu h
    have key := I.pdc u y hu h
    rw [pushS_eq I F hv, if_neg (by decide), if_pos rfl]
    unfold pdPush
    by_cases huv : u = v
    · subst huv
      rw [if_pos h, if_pos rfl, if_neg (fun hc => I.chNe hu hc rfl), Int.add_zero]
    · have hny : ¬ Ch st v y := by
        intro hc
        have := (I.ch v y hv hc).2
        omega
      rw [if_neg hny, if_neg huv]
      by_cases hcu : Ch st v u
      · rw [if_pos hcu, if_pos hcu, key]
        have := cv u hcu
        rw [w64_cg] at this
        obtain ⟨k, hk⟩ := this
        obtain ⟨i, hi, _⟩ := w64_eq (st u 5 + st v 5)
        apply w64_of
        exact ⟨k - i, by omega⟩
      · rw [if_neg hcu, if_neg hcu]
        exact key
  · intro w hw
    rw [pushS_eq I F hv, if_pos (.inl rfl)]
    unfold pdPush
    by_cases hc : Ch st v w
    · rw [if_pos hc, if_pos hc, I.val w hw]
      have := cv w hc
      rw [w64_cg] at this
      obtain ⟨k, hk⟩ := this
      obtain ⟨i, hi, _⟩ := w64_eq (tv w - pd w)
      apply w64_of
      exact ⟨i - k, by omega⟩
    · rw [if_neg hc, if_neg hc]
      exact I.val w hw
  · intro w hw
    rw [pushS_eq I F hv, if_pos (.inr rfl)]
    unfold pdPush
    by_cases hc : Ch st v w
    · rw [if_pos hc, if_pos hc, I.lst w hw]
      have := cv w hc
      rw [w64_cg] at this
      obtain ⟨k, hk⟩ := this
      obtain ⟨i, hi, _⟩ := w64_eq (mn tv (L w) - pd w)
      apply w64_of
      exact ⟨i - k, by omega⟩
    · rw [if_neg hc, if_neg hc]
      exact I.lst w hw

end
end Go.Proofs.Ytgbmkfifjijoiaa
