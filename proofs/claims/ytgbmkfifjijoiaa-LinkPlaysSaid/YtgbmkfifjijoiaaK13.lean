import Derived.Test.YtgbmkfifjijoiaaK12
/-! Adding to a way: the plain law. -/
namespace Go.Proofs.Ytgbmkfifjijoiaa
open Go
set_option linter.unusedVariables false

theorem mn_add {tv tv' : Nat → Int} {x : Int} : ∀ {l : List Nat}, l ≠ [] → (∀ y ∈ l, tv' y = tv y + x) → (∀ y ∈ l, tv y < 9223372036854775808 ∧ tv' y < 9223372036854775808) → mn tv' l = mn tv l + x := by
  intro l
  induction l with
  | nil => intro h; exact absurd rfl h
  | cons a l ih =>
    intro _ h hr
    have ha := h a (by simp)
    have hra := hr a (by simp)
    simp only [mn]
    cases l with
    | nil => simp only [mn]; omega
    | cons b l =>
      have := ih (by simp) (fun y hy => h y (List.mem_cons_of_mem _ hy)) (fun y hy => hr y (List.mem_cons_of_mem _ hy))
      rw [this, ha]
      omega
theorem Chn.par_of {par : Nat → Int} : ∀ {l : List Nat} {a : Nat}, Chn par (a :: l) → ∀ x ∈ l, ∃ u : Nat, par x = u := by
  intro l
  induction l with
  | nil => intro a _ x hx; cases hx
  | cons b l ih =>
    intro a h x hx
    rcases List.mem_cons.1 hx with rfl | hx
    · exact ⟨a, h.1⟩
    · exact ih h.2 x hx

section
variable {n : Nat} {st : St} {L : Nat → List Nat} {par tv pd : Nat → Int}

/-- What is added to the values of the nodes l. -/
def addT (tv : Nat → Int) (l : List Nat) (x : Int) : Nat → Int := fun w => if w ∈ l then tv w + x else tv w

theorem Fst.add {l : List Nat} {x : Int} (F : Fst n par tv) (hl : ∀ w ∈ l, par w ≠ -1)
    (hr : ∀ w, w < n → -9223372036854775808 ≤ tv w + x ∧ tv w + x < 9223372036854775808) : Fst n par (addT tv l x) := by
  refine ⟨F.pt, F.acy, ?_, ?_⟩
  · intro v hv
    unfold addT
    split
    · exact hr v hv
    · exact F.rng v hv
  · intro v hv h
    unfold addT
    rw [if_neg (fun hm => hl v hm h)]
    exact F.zero v hv h

theorem RootR.tail {r v : Nat} (A : RootR n st L par tv pd r v) : L r = r :: LL L (st r 1) := by
  rw [A.inv.ino r A.rn, LL_neg A.lf]; rfl

theorem RootR.add {r v : Nat} {x : Int} (A : RootR n st L par tv pd r v) (F : Fst n par tv)
    (hr : ∀ w, w < n → -9223372036854775808 ≤ tv w + x ∧ tv w + x < 9223372036854775808) :
    ∃ pd', Inv n (pullS (raiseS st (st r 1) x) r) L par (addT tv (LL L (st r 1)) x) pd' := by
  have I := A.inv
  have hrn := A.rn
  have tl := A.tail
  have hrng : ∀ w l, w < n → -9223372036854775808 ≤ addT tv l x w ∧ addT tv l x w < 9223372036854775808 := by
    intro w l hw
    unfold addT
    split
    · exact hr w hw
    · exact F.rng w hw
  rcases pt_of I hrn (k := 1) (by decide) with h0 | ⟨c, hc, hcn⟩
  · -- the root alone
    refine ⟨pd, ?_⟩
    rw [raiseS_neg h0, LL_neg h0]
    have et : addT tv [] x = tv := by funext w; exact if_neg (by simp)
    rw [et]
    have l3 : least3 st r = mn tv (L r) := by
      refine least3_ok ?_ ?_ (I.ino r hrn) (fun a ha => (F.rng a (I.lt r hrn a ha)).2)
      · rw [I.val r hrn, A.p0, Int.sub_zero, w64_in (F.rng r hrn).1 (F.rng r hrn).2]
      · intro c hc
        exact I.lstZ F (I.ch r c hrn hc).1 (by rw [I.pdc r c hrn hc, A.p0, A.a0]; rfl)
    have e4 : st r 4 = mn tv (L r) := I.lstZ F hrn (by rw [A.p0])
    have : pullS st r = st := by
      funext w j
      unfold pullS upd2
      rw [l3]
      split
      · rename_i h; obtain ⟨rfl, rfl⟩ := h; exact e4.symm
      · rfl
    rw [this]; exact I
  · rw [hc, LL_nat]
    have hcc : Ch st r c := .inr hc
    have tl' : L r = r :: L c := by rw [tl, hc, LL_nat]
    have cr : c ≠ r := I.chNe hrn hcc
    have nr : r ∉ L c := by
      have := I.nodup F hrn
      rw [tl'] at this
      exact (List.nodup_cons.1 this).1
    have c2 : st c 2 = r := (I.ch r c hrn hcc).2
    have pcz : w64 (pd c) = w64 0 := by rw [I.pdc r c hrn hcc, A.p0, A.a0]; rfl
    generalize htv : addT tv (L c) x = tv'
    have tvD : ∀ w, tv' w = if w ∈ L c then tv w + x else tv w := fun w => by rw [← htv]; rfl
    have tvr : ∀ w, w < n → -9223372036854775808 ≤ tv' w ∧ tv' w < 9223372036854775808 := fun w hw => by rw [← htv]; exact hrng w _ hw
    generalize hpd : (fun w => if w ∈ L c ∧ w ≠ c then pd w + x else pd w) = pd'
    have pdD : ∀ w, pd' w = if w ∈ L c ∧ w ≠ c then pd w + x else pd w := fun w => by rw [← hpd]
    generalize hst : pullS (raiseS st c x) r = st'
    have E : ∀ w j, j ≠ 4 → st' w j = if w = c ∧ (j = 3 ∨ j = 5) then w64 (st w j + x) else st w j := by
      intro w j hj
      rw [← hst]
      unfold pullS
      show upd2 _ r 4 _ w j = _
      unfold upd2
      rw [if_neg (by omega), raiseS_at]
      congr 1
      exact propext ⟨fun ⟨a, b⟩ => ⟨a, by omega⟩, fun ⟨a, b⟩ => ⟨a, by omega⟩⟩
    have E4 : ∀ w, st' w 4 = if w = r then least3 (raiseS st c x) r else if w = c then w64 (st w 4 + x) else st w 4 := by
      intro w
      rw [← hst]
      unfold pullS
      show upd2 _ r 4 _ w 4 = _
      unfold upd2
      by_cases h : w = r
      · rw [if_pos ⟨h, rfl⟩, if_pos h]
      · rw [if_neg (fun k => h k.1), if_neg h, raiseS_at]
        congr 1
        exact propext ⟨fun ⟨a, b⟩ => a, fun a => ⟨a, by omega⟩⟩
    have lk : ∀ w j, j < 3 → st' w j = st w j := fun w j hj => by rw [E w j (by omega), if_neg (by omega)]
    -- children and the set below c
    have chm : ∀ u y, u < n → Ch st u y → (y ∈ L c ↔ u ∈ L c ∨ y = c) := by
      intro u y hu h
      constructor
      · intro hy
        rcases I.anc c hcn y hy with h1 | ⟨z, hz, hzn, hcz, hzc⟩
        · exact .inr h1
        · have := (I.ch u y hu h).2
          have e : z = u := by omega
          subst e
          exact .inl hzc
      · rintro (h1 | rfl)
        · exact I.mtrans c hcn u h1 y (I.sub hu h (I.self (I.ch u y hu h).1))
        · exact I.self hcn
    have chc : ∀ u y, u < n → Ch st u y → y = c → u = r := by
      rintro u y hu h rfl
      have := (I.ch u y hu h).2
      omega
    have least_c : mn tv' (L c) = mn tv (L c) + x := by
      refine mn_add (fun h => by have := I.self hcn; rw [h] at this; cases this) (fun y hy => by rw [tvD, if_pos hy]) (fun y hy => ?_)
      have := I.lt c hcn y hy
      exact ⟨(F.rng y this).2, (tvr y this).2⟩
    have rngR : ∀ a ∈ L r, a < n := I.lt r hrn
    have mnr : ∀ w, w < n → -9223372036854775808 ≤ mn tv' (L w) ∧ mn tv' (L w) < 9223372036854775808 := fun w hw =>
      ⟨mn_low _ fun a ha => (tvr a (I.lt w hw a ha)).1, mn_high (I.self hw) (tvr w hw).2⟩
    refine ⟨pd', ⟨?_, ?_, ?_, I.chn, ?_, ?_, ?_, ?_, ?_⟩⟩
    · intro u y hu h
      rw [lk _ _ (by decide)]
      exact I.ch u y hu ((Ch.congr lk).1 h)
    · intro u hu
      rw [lk _ _ (by decide)]; exact I.up u hu
    · intro u hu
      rw [lk _ _ (by decide), lk _ _ (by decide)]; exact I.ino u hu
    · intro u hu hT
      rw [lk _ _ (by decide)]
      exact I.hd u hu ((Top.congr lk).1 hT)
    · intro u hu hT
      have hT := (Top.congr lk).1 hT
      rw [pdD, if_neg]
      · exact I.pdt u hu hT
      · rintro ⟨h1, h2⟩
        exact h2 (I.top_of_mem hcn h1 hT)
    · intro u y hu h
      replace h := (Ch.congr lk).1 h
      have k := I.pdc u y hu h
      have m := chm u y hu h
      rw [E _ _ (by decide), pdD, pdD]
      by_cases hy : y = c
      · have hur := chc u y hu h hy
        subst hur
        rw [if_neg (fun h => h.2 hy), if_neg (fun h => nr h.1), if_neg (fun h => cr h.1.symm)]
        exact k
      · by_cases hm : u ∈ L c
        · rw [if_pos ⟨m.2 (.inl hm), hy⟩]
          by_cases huc : u = c
          · subst huc
            rw [if_neg (fun h => h.2 rfl), if_pos ⟨rfl, .inr rfl⟩]
            obtain ⟨i, hi⟩ := w64_cg.1 k
            obtain ⟨j, hj, _⟩ := w64_eq (st u 5 + x)
            exact w64_of ⟨i - j, by omega⟩
          · rw [if_pos ⟨hm, huc⟩, if_neg (fun h => huc h.1)]
            obtain ⟨i, hi⟩ := w64_cg.1 k
            exact w64_of ⟨i, by omega⟩
        · have : ¬ y ∈ L c := fun h => (m.1 h).elim hm hy
          rw [if_neg (fun h => this h.1), if_neg (fun h => hm h.1), if_neg (fun h => hm (by rw [h.1]; exact I.self hcn))]
          exact k
    · intro u hu
      rw [E _ _ (by decide), pdD, tvD]
      by_cases huc : u = c
      · subst huc
        rw [if_pos ⟨rfl, .inl rfl⟩, if_pos (I.self hcn), if_neg (fun h => h.2 rfl), I.val u hu]
        obtain ⟨j, hj, _⟩ := w64_eq (tv u - pd u)
        exact w64_of ⟨j, by omega⟩
      · rw [if_neg (fun h => huc h.1), I.val u hu]
        by_cases hm : u ∈ L c
        · rw [if_pos hm, if_pos ⟨hm, huc⟩]
          congr 1; omega
        · rw [if_neg hm, if_neg (fun h => hm h.1)]
    · intro u hu
      rw [E4, pdD]
      by_cases hur : u = r
      · subst hur
        rw [if_pos rfl, if_neg (fun h => nr h.1), A.p0, Int.sub_zero, w64_in (mnr u hu).1 (mnr u hu).2]
        refine least3_ok ?_ ?_ ?_ (fun a ha => (tvr a (rngR a ha)).2)
        · rw [raiseS_at, if_neg (fun h => cr h.1.symm), I.val u hu, A.p0, Int.sub_zero, w64_in (F.rng u hu).1 (F.rng u hu).2, tvD, if_neg nr]
        · intro y hy
          have hy' : Ch st u y := by
            unfold Ch at hy ⊢
            rw [raiseS_at, raiseS_at, if_neg (by omega), if_neg (by omega)] at hy
            exact hy
          have hyc : y = c := by
            rcases hy' with h | h
            · have := A.lf; omega
            · omega
          subst hyc
          rw [raiseS_at, if_pos ⟨rfl, by omega⟩, I.lstZ F hcn pcz, ← least_c, w64_in (mnr y hcn).1 (mnr y hcn).2]
        · rw [raiseS_at, raiseS_at, if_neg (by omega), if_neg (by omega)]
          exact I.ino u hu
      · rw [if_neg hur]
        by_cases huc : u = c
        · subst huc
          rw [if_pos rfl, if_neg (fun h => h.2 rfl), least_c, I.lst u hu]
          obtain ⟨j, hj, _⟩ := w64_eq (mn tv (L u) - pd u)
          exact w64_of ⟨j, by omega⟩
        · rw [if_neg huc]
          by_cases hm : u ∈ L c
          · rw [if_pos ⟨hm, huc⟩]
            have : mn tv' (L u) = mn tv (L u) + x := by
              refine mn_add (fun h => by have := I.self hu; rw [h] at this; cases this) (fun y hy => by rw [tvD, if_pos (I.mtrans c hcn u hm y hy)]) (fun y hy => ?_)
              have := I.lt u hu y hy
              exact ⟨(F.rng y this).2, (tvr y this).2⟩
            rw [this, I.lst u hu]
            congr 1; omega
          · rw [if_neg (fun h => hm h.1), I.lst u hu]
            have : mn tv' (L u) = mn tv (L u) := by
              refine mn_congr fun y hy => ?_
              rw [tvD, if_neg]
              intro hyc
              rcases I.cmp hcn u hu y hy hyc with h | h
              · exact hm h
              · rcases I.anc u hu c h with h1 | ⟨z, hz, _, _, hzu⟩
                · exact huc h1.symm
                · have : z = r := by omega
                  subst this
                  exact hur (I.top_of_mem hu hzu A.top).symm
            rw [this]

end
end Go.Proofs.Ytgbmkfifjijoiaa
