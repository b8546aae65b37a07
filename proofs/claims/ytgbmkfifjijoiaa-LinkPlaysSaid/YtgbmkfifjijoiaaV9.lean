/- Operations of a region in another order. -/
import Derived.Test.YtgbmkfifjijoiaaV8
namespace Go.Proofs.Ytgbmkfifjijoiaa
open Go
set_option linter.unusedVariables false
set_option linter.unusedSimpArgs false

theorem evalL_eq {fr fr' : Fr} : ∀ {l : List Operand}, (∀ x ∈ l, evalO fr x = evalO fr' x) → evalL fr l = evalL fr' l := by
  intro l
  induction l with
  | nil => intro _; rfl
  | cons x r ih => intro h; simp only [evalL]; rw [h x (by simp), ih fun y hy => h y (by simp [hy])]

theorem zipE_eq {fr fr' : Fr} : ∀ {l : List (Nat × Operand)}, (∀ p ∈ l, evalO fr p.2 = evalO fr' p.2) → zipE fr l = zipE fr' l := by
  intro l
  induction l with
  | nil => intro _; rfl
  | cons x r ih => intro h; obtain ⟨i, x⟩ := x; simp only [zipE]; rw [h (i, x) (by simp), ih fun y hy => h y (by simp [hy])]

theorem optE_eq {fr fr' : Fr} {o : Option Operand} (h : ∀ x ∈ o, evalO fr x = evalO fr' x) : optE fr o = optE fr' o := by
  cases o with
  | none => rfl
  | some x => simp only [optE]; rw [h x (by simp)]

theorem opt_fr {P : Program} {o : Oper} {fr fr' : Fr} (hag : ∀ x ∈ o.op.operands.toList, evalO fr x = evalO fr' x) (h : H) (K X : Value → H → Prop) :
    opt P o fr h K X = opt P o fr' h K X := by
  unfold opt
  cases hop : o.op <;> rw [hop] at hag <;> simp only [Op.operands] at hag <;> try rfl
  case move x => simp only; rw [hag x (by simp)]
  case assign x => simp only; rw [hag x (by simp)]
  case pick c a b => simp only; rw [hag c (by simp), hag a (by simp), hag b (by simp)]
  case box e x => simp only; rw [hag x (by simp)]
  case build t ps => simp only; rw [zipE_eq fun p hp => hag p.2 (by simp; exact ⟨p.1, by simpa using hp⟩)]
  case buildSlice t n ps => simp only; rw [zipE_eq fun p hp => hag p.2 (by simp; exact ⟨p.1, by simpa using hp⟩)]
  case load t a => simp only; rw [hag a (by simp)]
  case store t a v => simp only; rw [hag a (by simp), hag v (by simp)]
  case nilCheck x => simp only; rw [hag x (by simp)]
  case binOp op t x y yt => simp only; rw [hag x (by simp), hag y (by simp)]
  case unOp op t x => simp only; rw [hag x (by simp)]
  case convert s d x => simp only; rw [hag x (by simp)]
  case makeInterface t x => simp only; rw [hag x (by simp)]
  case makeFunc fn first cap => simp only; rw [evalL_eq fun x hx => hag x (by simp at hx ⊢; exact .inl hx), evalL_eq (l := cap.toList) fun x hx => hag x (by simp at hx ⊢; exact .inr hx)]
  case makeSlice t l c => simp only; rw [hag l (by simp), hag c (by simp)]
  case slice t x lo hi mx =>
    simp only
    rw [hag x (by simp), optE_eq (o := lo) fun y hy => hag y (by simp at hy ⊢; simp [hy]), optE_eq (o := hi) fun y hy => hag y (by simp at hy ⊢; simp [hy]), optE_eq (o := mx) fun y hy => hag y (by simp at hy ⊢; simp [hy])]
  case fieldAddr t x f => simp only; rw [hag x (by simp)]
  case field t x f => simp only; rw [hag x (by simp)]
  case indexAddr t x i => simp only; rw [hag x (by simp), hag i (by simp)]
  case index t x i => simp only; rw [hag x (by simp), hag i (by simp)]
  case extract x i => simp only; rw [hag x (by simp)]
  case typeAssert x t a ok => simp only; rw [hag x (by simp)]
  case call c =>
    simp only [Call.operands] at hag ⊢
    rw [evalL_eq fun x hx => hag x (by simp at hx ⊢; exact .inr hx)]
    cases hc : c.callee <;> rw [hc] at hag <;> simp only
    case value f => rw [hag f (by simp)]
    case invoke r n => rw [hag r (by simp)]
  case panic x => simp only; rw [hag x (by simp)]

theorem ldAddr_fr {o : Oper} {fr fr' : Fr} (hag : ∀ x ∈ o.op.operands.toList, evalO fr x = evalO fr' x) : ldAddr fr o = ldAddr fr' o := by
  unfold ldAddr
  cases hop : o.op <;> rw [hop] at hag <;> simp only [Op.operands] at hag <;> try rfl
  case load t a => simp only; rw [hag a (by simp)]

/-! ### The classes -/

theorem opt_lin0 {P : Program} {o : Oper} (hc : clsOf P o = 0) {fr : Fr} {h : H} {K X : Value → H → Prop} (ho : opt P o fr h K X) :
    ∃ v, K v h ∧ ∀ h' K' X', K' v h' → opt P o fr h' K' X' := by
  unfold opt at ho ⊢
  unfold clsOf at hc
  cases hop : o.op <;> rw [hop] at hc ho <;> simp only at hc ho ⊢ <;> try (first | exact ho.elim | (exfalso; omega))
  case move x => obtain ⟨v, hv, hk⟩ := on_spec ho; exact ⟨v, hk, fun h' K' X' hk' => by rw [hv]; exact hk'⟩
  case assign x => obtain ⟨v, hv, hk⟩ := on_spec ho; exact ⟨v, hk, fun h' K' X' hk' => by rw [hv]; exact hk'⟩
  case pick c a b =>
    obtain ⟨v, hk, hr⟩ := (lin_on (R := Any) (evalO fr c) fun vc => lin_boolP vc fun bc => lin_ifP bc (lin_on (evalO fr a) fun v => lin_pure v) (lin_on (evalO fr b) fun v => lin_pure v)) h (fun v => K v h) ho
    exact ⟨v, hk, fun h' K' X' hk' => hr h' (fun v => K' v h') trivial hk'⟩
  case build t ps =>
    obtain ⟨v, hk, hr⟩ := (lin_on (R := Any) (zipE fr ps.toList) fun ps => lin_buildP P t ps) h (fun v => K v h) ho
    exact ⟨v, hk, fun h' K' X' hk' => hr h' (fun v => K' v h') trivial hk'⟩
  case nilCheck x =>
    obtain ⟨v, hk, hr⟩ := (lin_on (R := Any) (evalO fr x) fun v => lin_ptrP v fun a => lin_pure (.pointer (some a))) h (fun v => K v h) ho
    exact ⟨v, hk, fun h' K' X' hk' => hr h' (fun v => K' v h') trivial hk'⟩
  case makeInterface t x =>
    obtain ⟨v, hk, hr⟩ := (lin_on (R := Any) (evalO fr x) fun v => lin_mkIfcP P t v) h (fun v => K v h) ho
    exact ⟨v, hk, fun h' K' X' hk' => hr h' (fun v => K' v h') trivial hk'⟩
  case makeFunc fn first cap =>
    obtain ⟨v, hk, hr⟩ := (lin_on (R := Any) (evalL fr first.toList) fun vf => lin_on (evalL fr cap.toList) fun vc => lin_pure (.func fn ⟨vf⟩ ⟨vc⟩)) h (fun v => K v h) ho
    exact ⟨v, hk, fun h' K' X' hk' => hr h' (fun v => K' v h') trivial hk'⟩
  case fieldAddr t x f =>
    obtain ⟨v, hk, hr⟩ := (lin_on (R := Any) (evalO fr x) fun v => lin_fieldAddrP P t v f) h (fun v => K v h) ho
    exact ⟨v, hk, fun h' K' X' hk' => hr h' (fun v => K' v h') trivial hk'⟩
  case field t x f =>
    obtain ⟨v, hk, hr⟩ := (lin_on (R := Any) (evalO fr x) fun v => lin_fieldP P t v f) h (fun v => K v h) ho
    exact ⟨v, hk, fun h' K' X' hk' => hr h' (fun v => K' v h') trivial hk'⟩
  case indexAddr t x i =>
    obtain ⟨v, hk, hr⟩ := (lin_on (R := Any) (evalO fr x) fun v => lin_on (evalO fr i) fun vi => lin_idxAddrP P t v vi) h (fun v => K v h) ho
    exact ⟨v, hk, fun h' K' X' hk' => hr h' (fun v => K' v h') trivial hk'⟩
  case extract x i =>
    obtain ⟨v, hk, hr⟩ := (lin_on (R := Any) (evalO fr x) fun v => lin_tupP v fun vs => lin_on (vs[i]?) fun v => lin_pure v) h (fun v => K v h) ho
    exact ⟨v, hk, fun h' K' X' hk' => hr h' (fun v => K' v h') trivial hk'⟩
  case unOp op t x =>
    cases op <;> simp only at hc <;> try (exfalso; omega)
    obtain ⟨v, hk, hr⟩ := (lin_on (R := Any) (evalO fr x) fun v => lin_not P v) h (fun v => K v h) ho
    exact ⟨v, hk, fun h' K' X' hk' => hr h' (fun v => K' v h') trivial hk'⟩
  case convert s d x =>
    split at hc
    · rename_i h1 h2
      obtain ⟨v, hk, hr⟩ := (lin_on (R := Any) (evalO fr x) fun v => lin_convP0 P s d v h1 h2) h (fun v => K v h) ho
      exact ⟨v, hk, fun h' K' X' hk' => hr h' (fun v => K' v h') trivial hk'⟩
    · exfalso; omega
  case slice t x lo hi mx =>
    split at hc
    · rename_i e h1
      cases mx with
      | some m => simp at hc
      | none =>
        obtain ⟨v, hk, hr⟩ := (lin_on (R := Any) (evalO fr x) fun v => lin_on (optE fr lo) fun lo => lin_on (optE fr hi) fun hi => lin_sliceP0 P t v lo hi h1) h (fun v => K v h) ho
        exact ⟨v, hk, fun h' K' X' hk' => hr h' (fun v => K' v h') trivial hk'⟩
    · exfalso; omega
  case index t x i =>
    split at hc
    · rename_i n e h1
      obtain ⟨v, hk, hr⟩ := (lin_on (R := Any) (evalO fr x) fun v => lin_on (evalO fr i) fun vi => lin_indexP0 P t v vi h1) h (fun v => K v h) ho
      exact ⟨v, hk, fun h' K' X' hk' => hr h' (fun v => K' v h') trivial hk'⟩
    · exfalso; omega
  case binOp op t x y yt =>
    obtain ⟨vx, hvx, ho⟩ := on_spec ho
    obtain ⟨vy, hvy, ho⟩ := on_spec ho
    have hcase : (∃ k, P.underlying t = some (.int k)) ∨ P.underlying t = some .bool ∨ (∃ e, P.underlying t = some (.pointer e) ∧ vy = .pointer none) ∨ (∃ e l c, P.underlying t = some (.slice e) ∧ vy = .slice none l c) := by
      rcases hu : P.underlying t with _ | d
      · rw [hu] at hc; cases hc
      · rw [hu] at hc
        cases d <;> simp only at hc <;> try (exfalso; omega)
        · exact .inr (.inl rfl)
        · exact .inl ⟨_, rfl⟩
        · split at hc
          · rename_i e
            simp only [evalO, Option.some.injEq] at hvy
            exact .inr (.inr (.inl ⟨_, rfl, hvy.symm⟩))
          · cases hc
        · split at hc
          · rename_i e
            simp only [evalO, Option.some.injEq] at hvy
            exact .inr (.inr (.inr ⟨_, _, _, rfl, hvy.symm⟩))
          · cases hc
    obtain ⟨v, hk, hr⟩ := (lin_binP0 (R := Any) P op t x y vx vy hcase) h (fun v => K v h) ho
    exact ⟨v, hk, fun h' K' X' hk' => by rw [hvx, hvy]; exact hr h' (fun v => K' v h') trivial hk'⟩
  case call c =>
    obtain ⟨args, hargs, ho⟩ := on_spec ho
    cases hcal : c.callee <;> rw [hcal] at hc ho <;> simp only at hc ho <;> try (exfalso; omega)
    rename_i b
    have key : ∃ v, K v h ∧ ∀ h' K', K' v h' → builtinP P b c.argTypes.toList args h' K' := by
      cases b <;> simp only at hc <;> try (exfalso; omega)
      · unfold builtinP at ho ⊢
        split at ho <;> try (first | exact ho.elim | contradiction)
        rename_i t x hb ht
        obtain ⟨v, hk, hr⟩ := (lin_lenP (R := Any) P t x h) h (fun v => K v h) ho
        exact ⟨v, hk, fun h' K' hk' => by first | exact hr h' (fun v => K' v h') trivial hk' | (rw [ht]; exact hr h' (fun v => K' v h') trivial hk')⟩
      · unfold builtinP at ho ⊢
        split at ho <;> try (first | exact ho.elim | contradiction)
        rename_i v0 r hb
        obtain ⟨v, hk, hr⟩ := (lin_foldI (R := Any) (fun a b => if a < b then b else a) r v0) h (fun v => K v h) ho
        exact ⟨v, hk, fun h' K' hk' => by first | exact hr h' (fun v => K' v h') trivial hk' | (rw [ht]; exact hr h' (fun v => K' v h') trivial hk')⟩
      · unfold builtinP at ho ⊢
        split at ho <;> try (first | exact ho.elim | contradiction)
        rename_i v0 r hb
        obtain ⟨v, hk, hr⟩ := (lin_foldI (R := Any) (fun a b => if b < a then b else a) r v0) h (fun v => K v h) ho
        exact ⟨v, hk, fun h' K' hk' => hr h' (fun v => K' v h') trivial hk'⟩
    obtain ⟨v, hk, hr⟩ := key
    exact ⟨v, hk, fun h' K' X' hk' => by rw [hargs]; simp only [on]; exact hr h' K' hk'⟩

end Go.Proofs.Ytgbmkfifjijoiaa
