/- The operations of a region in another order: two that stand side by side change places. -/
import Derived.Test.YtgbmkfifjijoiaaV10
namespace Go.Proofs.Ytgbmkfifjijoiaa
open Go
set_option linter.unusedVariables false
set_option linter.unusedSimpArgs false

def Fr.le (fr fr' : Fr) : Prop := ∀ t v, Fr.get fr t = some v → Fr.get fr' t = some v
theorem Fr.le.refl (fr : Fr) : Fr.le fr fr := fun _ _ h => h
theorem Fr.le.trans {a b c : Fr} (h : Fr.le a b) (k : Fr.le b c) : Fr.le a c := fun t v e => k t v (h t v e)

theorem beq_self (d : Nat) : Nat.beq d d = true := Nat.beq_refl d
theorem beq_ne {d t : Nat} (h : d ≠ t) : Nat.beq d t = false := by
  cases hb : Nat.beq d t with
  | false => rfl
  | true => exact absurd (Nat.eq_of_beq_eq_true hb) h

theorem get_cons_self (d : Nat) (v : Value) (fr : Fr) : Fr.get ((d, v) :: fr) d = some v := by simp [Fr.get, beq_self]
theorem get_cons_ne {d t : Nat} (h : d ≠ t) (v : Value) (fr : Fr) : Fr.get ((d, v) :: fr) t = Fr.get fr t := by simp [Fr.get, beq_ne h]

theorem Fr.le.put {fr fr' : Fr} (h : Fr.le fr fr') (d : Option Nat) (v : Value) : Fr.le (Fr.put fr d v) (Fr.put fr' d v) := by
  cases d with
  | none => exact h
  | some d =>
    intro t u hu
    simp only [Fr.put] at hu ⊢
    by_cases e : d = t
    · subst e; rw [get_cons_self] at hu ⊢; exact hu
    · rw [get_cons_ne e] at hu ⊢; exact h t u hu

theorem le_cons_self {fr : Fr} {d : Nat} {v : Value} (h : Fr.get fr d = some v) : Fr.le fr ((d, v) :: fr) := fun t u hu => by
  by_cases e : d = t
  · subst e; rw [get_cons_self, ← h]; exact hu
  · rw [get_cons_ne e]; exact hu
theorem cons_self_le {fr : Fr} {d : Nat} {v : Value} (h : Fr.get fr d = some v) : Fr.le ((d, v) :: fr) fr := fun t u hu => by
  by_cases e : d = t
  · subst e; rw [get_cons_self] at hu; rw [h]; exact hu
  · rw [get_cons_ne e] at hu; exact hu

theorem put_swap {fr : Fr} {d e : Option Nat} (h : ∀ a b, d = some a → e = some b → a ≠ b) (v u : Value) :
    Fr.le (Fr.put (Fr.put fr d v) e u) (Fr.put (Fr.put fr e u) d v) := by
  cases d with
  | none => exact Fr.le.refl _
  | some a =>
    cases e with
    | none => exact Fr.le.refl _
    | some b =>
      have hne := h a b rfl rfl
      intro t x hx
      simp only [Fr.put] at hx ⊢
      by_cases ea : a = t
      · subst ea
        rw [get_cons_ne (Ne.symm hne), get_cons_self] at hx
        rw [get_cons_self]; exact hx
      · rw [get_cons_ne ea]
        by_cases eb : b = t
        · subst eb; rw [get_cons_self] at hx ⊢; exact hx
        · rw [get_cons_ne eb] at hx ⊢; rw [get_cons_ne ea] at hx; exact hx

theorem evalO_le {fr fr' : Fr} (hl : Fr.le fr fr') {x : Operand} {v : Value} (h : evalO fr x = some v) : evalO fr' x = some v := by
  cases x with
  | tmp t => exact hl t v h
  | const u => exact h
  | global g => exact h
  | func f => exact h

theorem evalL_le {fr fr' : Fr} (hl : Fr.le fr fr') : ∀ {l : List Operand} {vs : List Value}, evalL fr l = some vs → evalL fr' l = some vs := by
  intro l
  induction l with
  | nil => intro vs h; exact h
  | cons x r ih =>
    intro vs h
    simp only [evalL] at h ⊢
    cases hx : evalO fr x with
    | none => simp [hx] at h
    | some v =>
      cases hr : evalL fr r with
      | none => simp [hx, hr] at h
      | some us => simp only [hx, hr] at h; simp only [evalO_le hl hx, ih hr]; exact h

theorem zipE_le {fr fr' : Fr} (hl : Fr.le fr fr') : ∀ {l : List (Nat × Operand)} {vs : List (Nat × Value)}, zipE fr l = some vs → zipE fr' l = some vs := by
  intro l
  induction l with
  | nil => intro vs h; exact h
  | cons x r ih =>
    obtain ⟨i, x⟩ := x
    intro vs h
    simp only [zipE] at h ⊢
    cases hx : evalO fr x with
    | none => simp [hx] at h
    | some v =>
      cases hr : zipE fr r with
      | none => simp [hx, hr] at h
      | some us => simp only [hx, hr] at h; simp only [evalO_le hl hx, ih hr]; exact h

theorem optE_le {fr fr' : Fr} (hl : Fr.le fr fr') {o : Option Operand} {v : Option Value} (h : optE fr o = some v) : optE fr' o = some v := by
  cases o with
  | none => exact h
  | some x =>
    simp only [optE] at h ⊢
    cases hx : evalO fr x with
    | none => simp [hx] at h
    | some u => simp only [hx] at h; simp only [evalO_le hl hx]; exact h

theorem on_le {α : Type} {o o' : Option α} {F G : α → Prop} (ho : ∀ a, o = some a → o' = some a) (hf : ∀ a, F a → G a) (h : on o F) : on o' G := by
  obtain ⟨a, ha, h⟩ := on_spec h
  rw [ho a ha]; exact hf a h

theorem opt_le {P : Program} {o : Oper} {fr fr' : Fr} (hl : Fr.le fr fr') {h : H} {K X : Value → H → Prop} (ho : opt P o fr h K X) : opt P o fr' h K X := by
  have eO : ∀ x v, evalO fr x = some v → evalO fr' x = some v := fun x v e => evalO_le hl e
  have eL : ∀ l vs, evalL fr l = some vs → evalL fr' l = some vs := fun l vs e => evalL_le hl e
  have eZ : ∀ l vs, zipE fr l = some vs → zipE fr' l = some vs := fun l vs e => zipE_le hl e
  have eE : ∀ l vs, optE fr l = some vs → optE fr' l = some vs := fun l vs e => optE_le hl e
  unfold opt at ho ⊢
  cases hop : o.op <;> rw [hop] at ho <;> dsimp only at ho ⊢ <;> try (first | exact ho | exact on_le (eO _) (fun _ h => h) ho | exact on_le (eO _) (fun _ => on_le (eO _) fun _ h => h) ho | exact on_le (eZ _) (fun _ h => h) ho | exact on_le (eL _) (fun _ => on_le (eL _) fun _ h => h) ho)
  case pick c a b =>
    refine on_le (eO _) (fun vc h => ?_) ho
    obtain ⟨bc, rfl, h⟩ := boolP_spec h
    cases bc
    · exact on_le (eO _) (fun _ h => h) h
    · exact on_le (eO _) (fun _ h => h) h
  case slice t x lo hi mx => exact on_le (eO _) (fun _ => on_le (eE _) fun _ => on_le (eE _) fun _ => on_le (eE _) fun _ h => h) ho
  case call c =>
    refine on_le (eL _) (fun args h => ?_) ho
    cases hc : c.callee <;> rw [hc] at h <;> dsimp only at h ⊢
    · exact on_le (eO _) (fun _ h => h) h
    · exact on_le (eO _) (fun _ h => h) h
    · exact h

theorem ldAddr_le {P : Program} {o : Oper} {fr fr' : Fr} (hl : Fr.le fr fr') {h : H} {K X : Value → H → Prop} (ho : opt P o fr h K X) : ldAddr fr' o = ldAddr fr o := by
  unfold opt at ho
  unfold ldAddr
  cases hop : o.op <;> try rfl
  rw [hop] at ho
  obtain ⟨v, hv, _⟩ := on_spec ho
  simp only [hv, evalO_le hl hv]

theorem oblP_iff {P : Program} {ops : List Oper} {h h' : H} {K : Prop} : ∀ {L : List (Nat × Option Value)}, oblP P ops h h' L K ↔ (∀ p ∈ L, on (ops[p.1]?) fun o => rdSame P o p.2 h h') ∧ K := by
  intro L
  induction L with
  | nil => simp [oblP]
  | cons p r ih => simp only [oblP, ih, List.mem_cons, forall_eq_or_imp, and_assoc]

theorem mem_both {pd : List Nat} {p : Nat × Option Value} : ∀ {ex : List (Nat × Option Value)}, p ∈ both pd ex ↔ p ∈ ex ∧ has p.1 pd = true := by
  intro ex
  induction ex with
  | nil => simp [both]
  | cons q r ih =>
    simp only [both]
    cases hq : has q.1 pd with
    | true =>
      simp only [cond_true, List.mem_cons, ih]
      constructor
      · rintro (rfl | h)
        · exact ⟨.inl rfl, hq⟩
        · exact ⟨.inr h.1, h.2⟩
      · rintro ⟨rfl | h, h2⟩
        · exact .inl rfl
        · exact .inr ⟨h, h2⟩
    | false =>
      simp only [cond_false, List.mem_cons, ih]
      constructor
      · rintro ⟨h, h2⟩; exact ⟨.inr h, h2⟩
      · rintro ⟨rfl | h, h2⟩
        · rw [hq] at h2; cases h2
        · exact ⟨h, h2⟩

theorem oblP_weak {P : Program} {ops : List Oper} {h h' : H} {K K' : Prop} {pd : List Nat} {ex ex' : List (Nat × Option Value)} (hsub : ∀ p ∈ ex', p ∈ ex) (hk : K → K')
    (ho : oblP P ops h h' (both pd ex) K) : oblP P ops h h' (both pd ex') K' := by
  rw [oblP_iff] at ho ⊢
  refine ⟨fun p hp => ?_, hk ho.2⟩
  rw [mem_both] at hp
  exact ho.1 p (mem_both.2 ⟨hsub p hp.1, hp.2⟩)

theorem gdP_le {ops : List Oper} {g : Option (Nat × Bool)} {fr fr' : Fr} {A A' B B' : Fr → Prop} (hl : Fr.le fr fr')
    (hA : ∀ f f', Fr.le f f' → A f → A' f') (hB : ∀ f f', Fr.le f f' → B f → B' f') (hg : gdP ops g fr A B) : gdP ops g fr' A' B' := by
  unfold gdP at hg ⊢
  cases g with
  | none => exact hA _ _ hl hg
  | some jw =>
    obtain ⟨j, w⟩ := jw
    refine on_le (fun _ e => e) (fun oj => on_le (fun _ e => e) fun d hd => ?_) hg
    revert hd
    cases hget : Fr.get fr d with
    | none => exact fun hd => hd.elim
    | some v =>
      rw [hl d v hget]
      intro hd
      cases v <;> try exact hd.elim
      · rename_i b
        have hc : Fr.le ((d, .bool b) :: fr) ((d, .bool b) :: fr') := hl.put (some d) (.bool b)
        cases b <;> cases w <;> first
          | exact hA _ _ hc hd
          | exact hB _ _ hc hd
      · exact hB _ _ hl hd

theorem rpt_gen {P : Program} {ops : List Oper} {pd : Nat → List Nat} {X : Value → H → Prop} : ∀ (L : List Nat) {ex ex' : List (Nat × Option Value)} {fr fr' : Fr} {h : H} {K K' : Fr → H → Prop},
    Fin' h → (∀ f f' h, Fin' h → Fr.le f f' → K f h → K' f' h) → (∀ p ∈ ex', p ∈ ex) → Fr.le fr fr' → rpt P ops pd ex L fr h K X → rpt P ops pd ex' L fr' h K' X := by
  intro L
  induction L with
  | nil => intro ex ex' fr fr' h K K' hf hk _ hl hr; exact hk _ _ _ hf hl hr
  | cons i L ih =>
    intro ex ex' fr fr' h K K' hf hk hsub hl hr
    simp only [rpt] at hr ⊢
    refine on_le (fun _ e => e) (fun o => gdP_le hl (fun f f' hl ho => ?_) (fun f f' hl ho => ?_)) hr
    · have ha := ldAddr_le hl ho
      refine opt_le hl (opt_mono hf (fun v h' hf' => oblP_weak hsub (fun hr => ?_)) (fun _ _ x => x) ho)
      rw [ha]
      exact ih hf' hk (fun p hp => by
        simp only [List.mem_cons] at hp ⊢
        exact hp.imp id (hsub p)) (hl.put _ _) hr
    · exact ih hf hk (fun p hp => by
        simp only [List.mem_cons] at hp ⊢
        exact hp.imp id (hsub p)) (hl.put _ _) ho

theorem gdP_mono {ops : List Oper} {g : Option (Nat × Bool)} {fr : Fr} {A A' B B' : Fr → Prop} (hA : ∀ f, A f → A' f) (hB : ∀ f, B f → B' f) (hg : gdP ops g fr A B) : gdP ops g fr A' B' := by
  unfold gdP at hg ⊢
  cases g with
  | none => exact hA _ hg
  | some jw =>
    obtain ⟨j, w⟩ := jw
    refine on_le (fun _ e => e) (fun oj => on_le (fun _ e => e) fun d hd => ?_) hg
    revert hd
    cases Fr.get fr d with
    | none => exact id
    | some v =>
      cases v <;> try exact id
      · rename_i b
        cases b <;> cases w <;> first
          | exact hA _
          | exact hB _
      · exact hB _

theorem rpt_monoX {P : Program} {ops : List Oper} {pd : Nat → List Nat} {X X' : Value → H → Prop} {K : Fr → H → Prop} : ∀ (L : List Nat) {ex : List (Nat × Option Value)} {fr : Fr} {h : H},
    Fin' h → (∀ v h, X v h → X' v h) → rpt P ops pd ex L fr h K X → rpt P ops pd ex L fr h K X' := by
  intro L
  induction L with
  | nil => intro ex fr h hf hx hr; exact hr
  | cons i L ih =>
    intro ex fr h hf hx hr
    simp only [rpt] at hr ⊢
    refine on_le (fun _ e => e) (fun o => gdP_mono (fun f ho => ?_) (fun f ho => ih hf hx ho)) hr
    exact opt_mono hf (fun v h' hf' => oblP_weak (fun _ p => p) (ih hf' hx)) hx ho

end Go.Proofs.Ytgbmkfifjijoiaa
