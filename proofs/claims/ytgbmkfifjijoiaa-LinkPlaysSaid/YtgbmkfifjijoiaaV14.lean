/- A piece of code, and a function, come to what 'cpt' says of them. -/
import Derived.Test.YtgbmkfifjijoiaaV13
import Derived.Scope
namespace Go.Proofs.Ytgbmkfifjijoiaa
open Go
set_option linter.unusedVariables false
set_option linter.unusedSimpArgs false

def cex : Ex → Exit
  | .normal => .normal
  | .exit id => .exit id
  | .ret => .ret
  | .panic v => .panic [⟨v, false, false⟩]

theorem wp_loop_wf {P : Program} {Q : Exit → Act → World → Prop} {α : Type} {r : α → α → Prop} (wf : WellFounded r) {c : Code} (I : α → Act → World → Prop) {s : α} {a : Act} {w : World} (h₀ : I s a w)
    (round : ∀ s a w, I s a w → c.wp P (Exit.then (fun a' w' => ∃ s', r s' s ∧ I s' a' w') Q) a w) : (Code.loop c).wp P Q a w := by
  intro b k cs
  have key : ∀ s a w, I s a w → ∃ e a' w', Q e a' w' ∧ Arrives P (lone (b.at a (.code c :: .inLoop c :: k)) cs w) b k cs e a' w' := by
    intro s
    induction s using wf.induction with
    | _ s ih =>
      intro a w hI
      obtain ⟨e, a₁, w₁, hq, harr⟩ := round s a w hI b (.inLoop c :: k) cs
      cases e with
      | normal =>
        obtain ⟨s', hlt, hI₁⟩ := hq
        obtain ⟨e₂, a₂, w₂, hq₂, harr₂⟩ := ih s' hlt a₁ w₁ hI₁
        exact ⟨e₂, a₂, w₂, hq₂, .of_steps (Steps.trans harr (.one step_inLoop)) harr₂⟩
      | exit id => exact ⟨_, a₁, w₁, hq, .pass (x := .inLoop c) rfl (fun _ _ => .inl (by simp)) harr⟩
      | goto l => exact ⟨_, a₁, w₁, hq, .pass (x := .inLoop c) rfl (fun _ _ => .inl (by simp)) harr⟩
      | ret => exact ⟨_, a₁, w₁, hq, .pass (x := .inLoop c) rfl (fun _ _ => .inl (by simp)) harr⟩
      | panic ch => exact ⟨_, a₁, w₁, hq, .pass (x := .inLoop c) rfl (fun _ _ => .inl (by simp)) harr⟩
      | outgrown => exact ⟨_, a₁, w₁, hq, .pass (x := .inLoop c) rfl (fun _ _ => .inl (by simp)) harr⟩
  obtain ⟨e, a', w', hq, harr⟩ := key _ a w h₀
  exact ⟨e, a', w', hq, .of_steps (.one step_loop) harr⟩

theorem nodupB_spec : ∀ {l : List Nat}, nodupB l = true → l.Nodup := by
  intro l
  induction l with
  | nil => intro _; exact List.nodup_nil
  | cons i r ih =>
    intro h
    simp only [nodupB, Bool.and_eq_true, Bool.not_eq_true'] at h
    rw [List.nodup_cons]
    exact ⟨fun hm => by rw [has_iff.2 hm] at h; exact absurd h.1 (by simp), ih h.2⟩

theorem dstsOK_spec {n : Nat} : ∀ {l : List Oper}, dstsOK n l = true → ∀ o ∈ l, ∀ d, o.dst = some d → d < n := by
  intro l
  induction l with
  | nil => intro _ o h; cases h
  | cons x r ih =>
    intro h o ho d hd
    simp only [dstsOK, Bool.and_eq_true] at h
    simp only [List.mem_cons] at ho
    rcases ho with rfl | ho
    · rw [hd] at h
      simpa [Nat.blt_eq] using h.1
    · exact ih h.2 o ho d hd

theorem isRange_spec : ∀ {l : List Nat} {i : Nat}, isRange i l = true → l = List.range' i l.length := by
  intro l
  induction l with
  | nil => intro i _; rfl
  | cons j r ih =>
    intro i h
    simp only [isRange, Bool.and_eq_true] at h
    have hj : i = j := Nat.eq_of_beq_eq_true h.1
    subst hj
    rw [List.length_cons, List.range'_succ, ← ih h.2]

theorem decK_spec {k : SK} {v : Value} {K : k.ty → Prop} (h : decK k v K) : ∃ x, v = encK k x ∧ K x := by
  cases k with
  | int k =>
    unfold decK at h
    dsimp only at h
    split at h
    · rename_i k' x
      cases hk : sameK k k' with
      | false => rw [hk] at h; exact h.elim
      | true => rw [hk] at h; exact ⟨x, by rw [sameK_spec hk], h⟩
    · exact h.elim
  | bool =>
    unfold decK at h
    dsimp only at h
    split at h
    · exact ⟨_, rfl, h⟩
    · exact h.elim
  | val => exact ⟨v, rfl, h⟩

theorem decL_spec {fr : Fr} : ∀ {L : List (Nat × SK)} {K : SKs L → Prop}, decL fr L K → ∃ s, Fr.le (encL L s) fr ∧ K s := by
  intro L
  induction L with
  | nil => intro K h; exact ⟨(), fun t v h => by simp [encL, Fr.get] at h, h⟩
  | cons p r ih =>
    intro K h
    simp only [decL] at h
    obtain ⟨v, hv, h⟩ := on_spec h
    obtain ⟨x, e, h⟩ := decK_spec h
    obtain ⟨s, hs, h⟩ := ih h
    refine ⟨(x, s), fun t u hu => ?_, h⟩
    simp only [encL] at hu
    by_cases e2 : p.1 = t
    · subst e2; rw [get_cons_self] at hu; rw [hv, e]; exact hu
    · rw [get_cons_ne e2] at hu; exact hs t u hu

theorem allL_spec : ∀ {L : List (Nat × SK)} {P : SKs L → Prop}, allL L P → ∀ s, P s := by
  intro L
  induction L with
  | nil => intro P h s; exact h
  | cons p r ih => intro P h s; exact ih (h s.1) s.2

theorem Rel.le {n : Nat} {ds : List Deferred} {h0 : H} {w0 : World} {W : List Nat} {a0 : Act} {fr fr' : Fr} {h : H} {a : Act} {w : World} (r : Rel n ds h0 w0 W a0 fr h a w) (hl : Fr.le fr' fr) : Rel n ds h0 w0 W a0 fr' h a w :=
  ⟨r.fr.le hl, r.sub, r.same, r.size, r.defers, r.keep⟩

theorem dstsOf_mem : ∀ {l : List Oper} {o : Oper} {d : Nat}, o ∈ l → o.dst = some d → d ∈ dstsOf l := by
  intro l
  induction l with
  | nil => intro o d h; cases h
  | cons x r ih =>
    intro o d ho hd
    simp only [List.mem_cons] at ho
    simp only [dstsOf]
    rcases ho with rfl | ho
    · rw [hd]; simp
    · cases x.dst with
      | none => exact ih ho hd
      | some e => exact List.mem_cons_of_mem _ (ih ho hd)

theorem drop_ok {W : List Nat} {a a1 : Act} (hk : ∀ t, has t W = false → a.tmps[t]? = a1.tmps[t]?) : ∀ {fr : Fr}, (∀ t v, Fr.get fr t = some v → a1.tmps[t]? = some v) → FrOK (Fr.drop W fr) a := by
  intro fr hf t v hv
  have key : ∀ (fr : Fr), Fr.get (Fr.drop W fr) t = some v → has t W = false ∧ Fr.get fr t = some v := by
    intro fr
    induction fr with
    | nil => intro h; simp [Fr.drop, Fr.get] at h
    | cons p r ih =>
      obtain ⟨s, u⟩ := p
      intro h
      simp only [Fr.drop] at h
      by_cases e : s = t
      · subst e
        cases hs : has s W with
        | true =>
          rw [hs, cond_true] at h
          have := (ih h).1
          rw [hs] at this; cases this
        | false =>
          rw [hs, cond_false, get_cons_self] at h
          exact ⟨rfl, by rw [get_cons_self]; exact h⟩
      · cases hs : has s W with
        | true => rw [hs, cond_true] at h; rw [get_cons_ne e]; exact ih h
        | false => rw [hs, cond_false, get_cons_ne e] at h; rw [get_cons_ne e]; exact ih h
  obtain ⟨h1, h2⟩ := key fr hv
  rw [hk t h1]
  exact hf t v h2

theorem get_append {x y : Fr} {t : Nat} {v : Value} (h : Fr.get (x ++ y) t = some v) : Fr.get x t = some v ∨ Fr.get y t = some v := by
  induction x with
  | nil => exact .inr h
  | cons p r ih =>
    obtain ⟨s, u⟩ := p
    rw [List.cons_append] at h
    by_cases e : s = t
    · subst e; rw [get_cons_self] at h ⊢; exact .inl h
    · rw [get_cons_ne e] at h ⊢; exact ih h

theorem FrOK.append {x y : Fr} {a : Act} (hx : FrOK x a) (hy : FrOK y a) : FrOK (x ++ y) a := fun t v h => (get_append h).elim (hx t v) (hy t v)

/-- Behind a piece of code that writes W1 alone. -/
theorem Rel.behind {n : Nat} {ds : List Deferred} {h0 : H} {w0 : World} {W W1 : List Nat} {a0 a1 : Act} {fr fr' x : Fr} {h h' : H} {a : Act} {w' w1 : World} (r1 : Rel n ds h0 w0 W a0 fr h a1 w1) (r : Rel n ds h0 w0 W1 a1 fr' h' a w')
    (hW : ∀ t, has t W1 = true → has t W = true) (hx : Fr.le x fr') : Rel n ds h0 w0 W a0 (x ++ Fr.drop W1 fr) h' a w' :=
  ⟨(r.fr.le hx).append (drop_ok r.keep r1.fr), r.sub, r.same, r.size, r.defers, fun t ht => by
    have h1 : has t W1 = false := by
      cases e : has t W1 with
      | false => rfl
      | true => rw [hW t e] at ht; cases ht
    rw [r.keep t h1, r1.keep t ht]⟩

theorem Rel.back {n : Nat} {ds : List Deferred} {h0 : H} {w0 : World} {W W1 : List Nat} {a0 a1 : Act} {fr fr' : Fr} {h h' : H} {a : Act} {w' w1 : World} (r1 : Rel n ds h0 w0 W a0 fr h a1 w1) (r : Rel n ds h0 w0 W1 a1 fr' h' a w')
    (hW : ∀ t, has t W1 = true → has t W = true) : Rel n ds h0 w0 W a0 fr' h' a w' :=
  ⟨r.fr, r.sub, r.same, r.size, r.defers, fun t ht => by
    have h1 : has t W1 = false := by
      cases e : has t W1 with
      | false => rfl
      | true => rw [hW t e] at ht; cases ht
    rw [r.keep t h1, r1.keep t ht]⟩

theorem region_sound {P : Program} {n : Nat} {ra : RA} {id : Nat} {ops : Array Oper} {draw : Bool} {fr : Fr} {h : H} {K : Fr → H → Prop} {X : Value → H → Prop}
    (hok : regOK P ops.toList ra draw n = true) (hr : rpt P ops.toList ra.pd [] ra.order fr h K X) {ds : List Deferred} {h0 : H} {w0 : World} {W : List Nat} {a0 : Act} (hW : ∀ t ∈ dstsOf ops.toList, has t W = true) {a : Act} {w : World} (rel : Rel n ds h0 w0 W a0 fr h a w) {Q : Exit → Act → World → Prop}
    (hX : ∀ v h' a' w', X v h' → Rel n ds h0 w0 W a0 [] h' a' w' → Q (.panic [⟨v, false, false⟩]) a' w')
    (hN : ∀ fr' h' a' w', K fr' h' → Rel n ds h0 w0 W a0 fr' h' a' w' → Q .normal a' w') : (Code.region id ops draw).wp P Q a w := by
  have hr' : rpt P ops.toList ra.pd [] ra.order fr h (fun f h => ∃ f', Fr.le f' f ∧ K f' h) (fun v h => ∃ h1, Ext h1 h ∧ X v h1) :=
    rpt_monoX _ rel.sub.fin (fun v h hx => ⟨h, Ext.refl h, hx⟩) (rpt_gen _ rel.sub.fin (fun f f' h _ hl hk => ⟨f, hl, hk⟩) (fun _ p => p) (Fr.le.refl _) hr)
  have hUX : UpX (fun v h => ∃ h1, Ext h1 h ∧ X v h1) := fun v h h' he ⟨h1, e1, hx⟩ => ⟨h1, fun b o hb => he b o (e1 b o hb), hx⟩
  have hX : ∀ v h' a' w', (∃ h1, Ext h1 h' ∧ X v h1) → Rel n ds h0 w0 W a0 [] h' a' w' → Q (.panic [⟨v, false, false⟩]) a' w' := fun v h' a' w' ⟨h1, he, hx⟩ r =>
    hX v h1 a' w' hx ⟨FrOK.nil a', he.sub r.sub, ⟨r.same.same, r.same.size, fun b hb hn => by
      obtain ⟨e2, n2⟩ := r.same.frame b hb hn
      refine ⟨e2, ?_⟩
      cases e3 : h1 b with
      | none => rfl
      | some o => rw [he b o e3] at n2; cases n2⟩, r.size, r.defers, r.keep⟩
  have hK : UpK (fun f h => ∃ f', Fr.le f' f ∧ K f' h) := fun f f' h _ hl ⟨g, hg, hk⟩ => ⟨g, hg.trans hl, hk⟩
  have hN' : ∀ fr' h' a' w', (∃ f', Fr.le f' fr' ∧ K f' h') → Rel n ds h0 w0 W a0 fr' h' a' w' → Q .normal a' w' := fun fr' h' a' w' ⟨g, hg, hk⟩ rel => hN g h' a' w' hk (rel.le hg)
  unfold regOK at hok
  simp only [Bool.and_eq_true] at hok
  obtain ⟨⟨hd, hlen⟩, hok⟩ := hok
  have hd : ∀ o ∈ ops.toList, ∀ d, o.dst = some d → d < n ∧ has d W = true := fun o ho d hdd => ⟨dstsOK_spec hd o ho d hdd, hW d (dstsOf_mem ho hdd)⟩
  have hlen : ra.order.length = ops.size := by have := Nat.eq_of_beq_eq_true hlen; simpa using this
  cases draw with
  | false =>
    rw [cond_false] at hok
    have ho := isRange_spec hok
    rw [hlen, ← List.range_eq_range'] at ho
    rw [ho] at hr'
    exact wp_region (list_sound hK hd hX hN' _ _ _ _ _ _ hr' rel)
  | true =>
    rw [cond_true] at hok
    simp only [Bool.and_eq_true] at hok
    obtain ⟨⟨⟨hperm, hedge⟩, hmix⟩, hpairs⟩ := hok
    unfold permOK at hperm
    simp only [Bool.and_eq_true] at hperm
    obtain ⟨⟨hnd, hlt⟩, hin⟩ := hperm
    refine wp_region_any hmix ?_
    refine any_sound hK hUX hd hX hN' hedge ops.size _ ra.order (by omega) (nodupB_spec hnd) (fun i => ?_) (by simp) hpairs (fun j hj hjn => ?_) [] fr h a _ hr' ⟨rel.fr, rel.sub, ⟨rel.same.same, rel.same.size, rel.same.frame⟩, rel.size, rel.defers, rel.keep⟩
    · constructor
      · intro hi
        have := List.all_eq_true.1 hlt i hi
        have hi2 : i < ops.size := by simpa [Nat.blt_eq] using this
        exact ⟨hi2, by simp [hi2]⟩
      · rintro ⟨hi, _⟩
        exact has_iff.1 (List.all_eq_true.1 hin i (List.mem_range.2 (by simpa using hi)))
    · exact absurd (has_iff.1 (List.all_eq_true.1 hin j (List.mem_range.2 (by simpa using hj)))) hjn

theorem cpt_sound {P : Program} {n : Nat} {A : An} : ∀ (c : Code) (fr : Fr) (h : H) (Q' : Ex → Fr → H → Prop), cpt P n A c fr h Q' →
    ∀ (ds : List Deferred) (h0 : H) (w0 : World) (W : List Nat) (a0 : Act) (a : Act) (w : World) (Q : Exit → Act → World → Prop), (∀ t ∈ writesOf c, has t W = true) → Rel n ds h0 w0 W a0 fr h a w →
      (∀ e fr' h' a' w', Q' e fr' h' → Rel n ds h0 w0 W a0 fr' h' a' w' → Q (cex e) a' w') → c.wp P Q a w := by
  intro c
  induction c with
  | skip => intro fr h Q' hc ds h0 w0 W a0 a w Q hW rel hQ; exact wp_skip (hQ _ _ _ _ _ hc rel)
  | label l => intro fr h Q' hc ds h0 w0 W a0 a w Q hW rel hQ; exact wp_label (hQ _ _ _ _ _ hc rel)
  | exit id => intro fr h Q' hc ds h0 w0 W a0 a w Q hW rel hQ; exact wp_exit (hQ (.exit id) _ _ _ _ hc rel)
  | ret => intro fr h Q' hc ds h0 w0 W a0 a w Q hW rel hQ; exact wp_ret (hQ .ret _ _ _ _ hc rel)
  | goto l => intro fr h Q' hc; exact hc.elim
  | refuse why => intro fr h Q' hc; exact hc.elim
  | rangeFunc f ps x b _ _ => intro fr h Q' hc; exact hc.elim
  | region id ops draw =>
    intro fr h Q' hc ds h0 w0 W a0 a w Q hW rel hQ
    simp only [cpt] at hc
    cases hok : regOK P ops.toList (A.ra id) draw n with
    | false => rw [hok] at hc; exact hc.elim
    | true =>
      rw [hok, cond_true] at hc
      refine region_sound hok hc hW rel (fun v h' a' w' hx rel' => hQ (.panic v) [] h' a' w' hx rel') (fun fr' h' a' w' hk rel' => hQ .normal _ _ _ _ hk rel')
  | seq x y ihx ihy =>
    intro fr h Q' hc ds h0 w0 W a0 a w Q hW rel hQ
    simp only [cpt] at hc
    have hWx : ∀ t ∈ writesOf x, has t W = true := fun t ht => hW t (by simp [writesOf, ht])
    have hWy : ∀ t ∈ writesOf y, has t W = true := fun t ht => hW t (by simp [writesOf, ht])
    cases hct : A.ct (firstReg y) with
    | none =>
      rw [hct] at hc
      refine wp_seq (ihx _ _ _ hc ds h0 w0 W a0 a w _ hWx rel fun e fr' h' a' w' hq rel' => ?_)
      cases e with
      | normal => exact ihy _ _ _ hq ds h0 w0 W a0 a' w' Q hWy rel' hQ
      | exit id => exact hQ _ _ _ _ _ hq rel'
      | ret => exact hQ _ _ _ _ _ hq rel'
      | panic v => exact hQ _ _ _ _ _ hq rel'
    | some L =>
      rw [hct] at hc
      obtain ⟨J, hx, hy⟩ := hc
      have hW1 : ∀ t, has t (writesOf x) = true → has t W = true := fun t ht => hWx t (has_iff.1 ht)
      refine wp_seq (ihx _ _ _ hx ds h0 w0 (writesOf x) a a w _ (fun t ht => has_iff.2 ht) ⟨rel.fr, rel.sub, rel.same, rel.size, rel.defers, fun _ _ => rfl⟩ fun e fr' h' a' w' hq rel' => ?_)
      cases e with
      | normal =>
        obtain ⟨s, hs, hj⟩ := decL_spec hq
        exact ihy _ _ _ (allL_spec hy s h' hj) ds h0 w0 W a0 a' w' Q hWy (rel.behind rel' hW1 hs) hQ
      | exit id => exact hQ _ _ _ _ _ hq (rel.back rel' hW1)
      | ret => exact hQ _ _ _ _ _ hq (rel.back rel' hW1)
      | panic v => exact hQ _ _ _ _ _ hq (rel.back rel' hW1)
  | cond c x y ihx ihy =>
    intro fr h Q' hc ds h0 w0 W a0 a w Q hW rel hQ
    simp only [cpt] at hc
    obtain ⟨v, hv, hc⟩ := on_spec hc
    obtain ⟨b, e, hc⟩ := boolP_spec hc
    subst e
    refine wp_cond (rel.fr.evalO hv) ?_
    cases b with
    | true => exact ihx _ _ _ hc ds h0 w0 W a0 a w Q (fun t ht => hW t (by simp [writesOf, ht])) rel hQ
    | false => exact ihy _ _ _ hc ds h0 w0 W a0 a w Q (fun t ht => hW t (by simp [writesOf, ht])) rel hQ
  | block id c ih =>
    intro fr h Q' hc ds h0 w0 W a0 a w Q hW rel hQ
    simp only [cpt] at hc
    refine wp_block (ih _ _ _ hc ds h0 w0 W a0 a w _ hW rel fun e fr' h' a' w' hq rel' => ?_)
    cases e with
    | normal => exact hQ _ _ _ _ _ hq rel'
    | exit i =>
      simp only [cex, Exit.inBlock]
      by_cases hi : i = id
      · subst hi
        simp only [beq_self, cond_true] at hq
        rw [if_pos rfl]
        exact hQ .normal _ _ _ _ hq rel'
      · simp only [beq_ne hi, cond_false] at hq
        rw [if_neg hi]
        exact hQ (.exit i) _ _ _ _ hq rel'
    | ret => exact hQ _ _ _ _ _ hq rel'
    | panic v => exact hQ _ _ _ _ _ hq rel'
  | loop c ih =>
    intro fr h Q' hc ds h0 w0 W a0 a w Q hW rel hQ
    simp only [cpt] at hc
    obtain ⟨s0, hs0, I, r, wf, hi0, round⟩ := decL_spec hc
    have hW1 : ∀ t, has t (writesOf c) = true → has t W = true := fun t ht => hW t (has_iff.1 ht)
    refine wp_loop_wf wf (fun s a' w' => I s.1 s.2 ∧ Rel n ds h0 w0 (writesOf c) a (encL _ s.1) s.2 a' w') (s := (s0, h))
      ⟨hi0, rel.fr.le hs0, rel.sub, rel.same, rel.size, rel.defers, fun _ _ => rfl⟩ ?_
    rintro ⟨s1, h1⟩ a1 w1 ⟨hI, rel1⟩
    have hfr1 : FrOK (encL _ s1 ++ Fr.drop (writesOf c) fr) a1 := rel1.fr.append (drop_ok rel1.keep rel.fr)
    refine ih _ _ _ (allL_spec round s1 h1 hI) ds h0 w0 (writesOf c) a a1 w1 _ (fun t ht => has_iff.2 ht) ⟨hfr1, rel1.sub, rel1.same, rel1.size, rel1.defers, rel1.keep⟩ fun e fr' h' a' w' hq rel' => ?_
    cases e with
    | normal =>
      obtain ⟨s', hs', hq1, hq2⟩ := decL_spec hq
      exact ⟨(s', h'), hq2, hq1, rel'.le hs'⟩
    | exit id => exact hQ _ _ _ _ _ hq (rel.back rel' hW1)
    | ret => exact hQ _ _ _ _ _ hq (rel.back rel' hW1)
    | panic v => exact hQ _ _ _ _ _ hq (rel.back rel' hW1)
  | scope c ih =>
    intro fr h Q' hc ds h0 w0 W a0 a w Q hW rel hQ
    refine wp_scope_straight (ih _ _ _ hc ds h0 w0 W a0 a w _ hW rel fun e fr' h' a' w' hq rel' => ?_)
    have := hQ e fr' h' a' w' hq rel'
    cases e <;> exact this

def resF (tmps : Array Value) : ResultVar → Sem Value
  | .tmp t => pure (tmps.getD t undef)
  | .cell a t => do loadVar t (← asAddr (tmps.getD a undef))

theorem resL_run {P : Program} {fr : Fr} {h : H} {a : Act} (hf : FrOK fr a) : ∀ {rs : List ResultVar} {K : List Value → Prop}, resL P fr h rs K →
    ∃ vs, vs.length = rs.length ∧ K vs ∧ ∀ w, Sub h w → (rs.mapM (resF a.tmps)).run P w = .ok vs w := by
  intro rs
  induction rs with
  | nil => intro K hk; exact ⟨[], rfl, hk, fun w _ => rfl⟩
  | cons r rs ih =>
    intro K hk
    cases r with
    | tmp t =>
      simp only [resL] at hk
      obtain ⟨v, hv, hk⟩ := on_spec hk
      obtain ⟨vs, hl, hk, hr⟩ := ih hk
      refine ⟨v :: vs, by simp [hl], hk, fun w hs => ?_⟩
      rw [List.mapM_cons]
      have : a.tmps.getD t undef = v := by simp [hf t v hv]
      simp only [resF, this, pure_bind, Sem.run_bind, hr w hs, Result.andThen_ok, Sem.run_pure]
    | cell x t =>
      simp only [resL] at hk
      obtain ⟨va, hva, hk⟩ := on_spec hk
      have hptr : ∃ p, va = .pointer (some p) := by
        unfold loadP at hk
        obtain ⟨p, e, _⟩ := ptrP_spec hk
        exact ⟨p, e⟩
      obtain ⟨v, hk, hrun⟩ := loadP_run hk
      obtain ⟨vs, hl, hk, hr⟩ := ih hk
      refine ⟨v :: vs, by simp [hl], hk, fun w hs => ?_⟩
      rw [List.mapM_cons]
      obtain ⟨p, rfl⟩ := hptr
      have hget : a.tmps.getD x undef = .pointer (some p) := by simp [hf x _ hva]
      have hrun := hrun w hs
      simp only [Instr.loadAt, Instr.sureAddr, pure_bind] at hrun
      simp only [resF, hget, asAddr, pure_bind, Sem.run_bind, hrun, hr w hs, Result.andThen_ok, Sem.run_pure]

theorem resP_run {P : Program} {fn : Func} {fr : Fr} {h : H} {a : Act} (hf : FrOK fr a) {K : Value → Prop} (hk : resP P fr h fn.results.toList K) :
    ∃ v, K v ∧ ∀ w, Sub h w → (results fn a.tmps).run P w = .ok v w := by
  obtain ⟨vs, hl, hk, hr⟩ := resL_run hf hk
  have hrun : ∀ w, Sub h w → (results fn a.tmps).run P w = .ok (if hz : vs.toArray.size = 1 then vs.toArray[0] else .tuple vs.toArray) w := by
    intro w hs
    have he : results fn a.tmps = (do let vs ← fn.results.mapM (resF a.tmps); pure (if h : vs.size = 1 then vs[0] else .tuple vs)) := by
      unfold results
      congr 2
    rw [he, Array.mapM_eq_mapM_toList]
    simp only [Sem.run_bind, Sem.run_map, hr w hs, Result.andThen_ok]
    rfl
  match vs, hk, hrun with
  | [], hk, hrun => exact ⟨_, hk, fun w hs => by rw [hrun w hs]; rfl⟩
  | [v], hk, hrun => exact ⟨_, hk, fun w hs => by rw [hrun w hs]; rfl⟩
  | v :: u :: r, hk, hrun => exact ⟨_, hk, fun w hs => by rw [hrun w hs]; simp⟩

theorem get_fr0 : ∀ (args : List Value) (i t : Nat) (v : Value), Fr.get (fr0 i args) t = some v → i ≤ t ∧ args[t - i]? = some v := by
  intro args
  induction args with
  | nil => intro i t v h; simp [fr0, Fr.get] at h
  | cons x r ih =>
    intro i t v h
    simp only [fr0] at h
    by_cases e : i = t
    · subst e; rw [get_cons_self] at h; exact ⟨Nat.le_refl _, by simpa using h⟩
    · rw [get_cons_ne e] at h
      obtain ⟨h1, h2⟩ := ih (i + 1) t v h
      refine ⟨by omega, ?_⟩
      rw [show t - i = (t - (i + 1)) + 1 by omega, List.getElem?_cons_succ]
      exact h2

theorem T_intro {P : Program} {f : FuncId} {fn : Func} {c : Code} {args : List Value} {h : H} {R : Res → H → Prop} (A : An) (hf : P.funcs[f]? = some fn) (hb : fn.body = some c)
    (hn : (fn.name == "runtime.NumGoroutine") = false) (hl : Nat.ble args.length fn.ntmps = true) (hc : cpt P fn.ntmps A c (fr0 0 args) h (endP P fn.results.toList R)) : T P f args h R := by
  refine ⟨⟨fn, hf, by rw [hb]; rfl, hn⟩, fun w hw => ?_⟩
  refine calls_of_wp hf hb ?_
  have hl : args.length ≤ fn.ntmps := Nat.le_of_ble_eq_true hl
  refine cpt_sound c _ h _ hc [] h w (writesOf c) _ _ w _ (fun t ht => has_iff.2 ht) ⟨fun t v hv => ?_, hw, Stp.refl h w, ?_, rfl, fun _ _ => rfl⟩ fun e fr' h' a' w' hq rel => ?_
  · obtain ⟨_, h2⟩ := get_fr0 args 0 t v hv
    simp only [Nat.sub_zero] at h2
    have hlt := (List.getElem?_eq_some_iff.1 h2).1
    show (args.toArray ++ Array.replicate (fn.ntmps - args.toArray.size) undef)[t]? = some v
    rw [Array.getElem?_append_left (by simpa using hlt)]
    simpa using h2
  · simp; omega
  · cases e with
    | normal =>
      obtain ⟨v, hk, hr⟩ := resP_run rel.fr hq
      exact ⟨rel.defers, v, hr w' rel.sub, h', rel.sub, rel.same, hk⟩
    | ret =>
      obtain ⟨v, hk, hr⟩ := resP_run rel.fr hq
      exact ⟨rel.defers, v, hr w' rel.sub, h', rel.sub, rel.same, hk⟩
    | panic v => exact ⟨rel.defers, h', rel.sub, rel.same, hq⟩
    | exit id => exact hq.elim

def bodyOf (f : Func) : Code := match f.body with
  | some c => c
  | none => .skip

theorem cast_of {A B : Prop} (e : A = B) (h : B) : A := e ▸ h

def rng (n : Nat) : RA := ⟨List.range n, fun _ => []⟩
def lkN : List (Nat × List Nat) → Nat → List Nat
  | [], _ => []
  | p :: r, i => bif Nat.beq p.1 i then p.2 else lkN r i
def lkA : List (Nat × RA) → Nat → RA
  | [], _ => ⟨[], fun _ => []⟩
  | p :: r, i => bif Nat.beq p.1 i then p.2 else lkA r i
def lkL : List (Nat × List (Nat × SK)) → Nat → List (Nat × SK)
  | [], _ => []
  | p :: r, i => bif Nat.beq p.1 i then p.2 else lkL r i
def lkC : List (Nat × List (Nat × SK)) → Nat → Option (List (Nat × SK))
  | [], _ => none
  | p :: r, i => bif Nat.beq p.1 i then some p.2 else lkC r i

/-! ### Words of the printed texts -/

/-- The head of a block. -/
@[reducible] def bk (b : Nat) : Addr := ⟨b, 0, none⟩

def rt (A X : Value → H → Prop) (r : Res) (h : H) : Prop := match r with
  | .ret v => A v h
  | .pan v => X v h
def sameAt (n : Nat) (a : Addr) (h h' : H) : Prop := ∀ i, i < n → hcell h' (a.add i) = hcell h (a.add i)
@[reducible] def ptI (cs : List Value) (off : Nat) (k : IntKind) (K : Int → Prop) : Prop := ∃ n, cs[off]? = some (.int k n) ∧ K n
@[reducible] def ptB (cs : List Value) (off : Nat) (K : Bool → Prop) : Prop := ∃ n, cs[off]? = some (.bool n) ∧ K n
@[reducible] def ptV (cs : List Value) (off : Nat) (K : Value → Prop) : Prop := ∃ n, cs[off]? = some n ∧ K n
@[reducible] def mkS (l c : Int) (bytes : Nat) (z : List Value) (e : TypeId) (h : H) (K : Nat → H → Prop) : Prop :=
  0 ≤ l ∧ l ≤ c ∧ c * bytes ≤ 2 ^ 48 ∧ c ≤ 2 ^ 48 ∧ newP h (.cells ⟨zrep z c.toNat⟩ e (0, 0)) K
@[reducible] def apP (s x : Value) (h : H) (size : Nat) (e : TypeId) (bytes : Nat) (z : List Value) (K : Value → H → Prop) : Prop :=
  slcP s fun base sl sc => slcP x fun xa n _ => ∃ new, srcP h xa (n * size) new ∧ appP h base sl sc n size e bytes z new K

end Go.Proofs.Ytgbmkfifjijoiaa
