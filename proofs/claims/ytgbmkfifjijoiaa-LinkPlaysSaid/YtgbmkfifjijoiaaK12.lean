import Derived.Test.YtgbmkfifjijoiaaK11
/-! Linking, cutting and adding: the plain laws. -/
namespace Go.Proofs.Ytgbmkfifjijoiaa
open Go
set_option linter.unusedVariables false

/-- The nodes from a node up to its root. -/
inductive UpW (par : Nat → Int) : Nat → List Nat → Prop
  | root {v : Nat} : par v = -1 → UpW par v [v]
  | step {v u : Nat} {l : List Nat} : par v = u → UpW par u l → UpW par v (v :: l)

theorem UpW.uniq {par : Nat → Int} {v : Nat} {l l' : List Nat} (a : UpW par v l) (b : UpW par v l') : l = l' := by
  induction a generalizing l' with
  | root h =>
    cases b with
    | root _ => rfl
    | step k _ => omega
  | step h _ ih =>
    cases b with
    | root k => omega
    | step k b2 =>
      have e := h.symm.trans k
      have e := Int.ofNat_inj.1 e
      subst e
      rw [ih b2]
theorem UpW.last {par : Nat → Int} {v : Nat} {l : List Nat} (a : UpW par v l) : ∃ r, l.getLast? = some r ∧ par r = -1 := by
  induction a with
  | root h => exact ⟨_, rfl, h⟩
  | @step v u l h a ih =>
    obtain ⟨r, h1, h2⟩ := ih
    refine ⟨r, ?_, h2⟩
    rw [List.getLast?_cons, h1]; rfl
theorem UpW.head {par : Nat → Int} {v : Nat} {l : List Nat} (a : UpW par v l) : ∃ m, l = v :: m := by
  cases a <;> exact ⟨_, rfl⟩
theorem UpW.of_chn {par : Nat → Int} : ∀ {l : List Nat} {a : Nat} {m : List Nat}, Chn par (a :: l) → UpW par a m → ∀ v, (a :: l).getLast? = some v → UpW par v (l.reverse ++ m) := by
  intro l
  induction l with
  | nil => intro a m _ h v hv; cases hv; exact h
  | cons b l ih =>
    intro a m hc h v hv
    have := ih (m := b :: m) hc.2 (.step hc.1 h) v (by rw [List.getLast?_cons_cons] at hv; exact hv)
    simpa using this
theorem UpW.of_way {par : Nat → Int} {l : List Nat} {r v : Nat} (hc : Chn par l) (hh : l.head? = some r) (hl : l.getLast? = some v) (hr : par r = -1) : UpW par v l.reverse := by
  cases l with
  | nil => cases hh
  | cons a l =>
    cases hh
    simpa using UpW.of_chn hc (.root hr) v hl
theorem UpW.exists {n : Nat} {par tv : Nat → Int} (F : Fst n par tv) : ∀ v, v < n → ∃ l, UpW par v l ∧ ∀ x ∈ l, x < n := by
  obtain ⟨d, hd⟩ := F.acy
  have : ∀ k v, v < n → d v ≤ k → ∃ l, UpW par v l ∧ ∀ x ∈ l, x < n := by
    intro k
    induction k with
    | zero =>
      intro v hv hk
      rcases F.pt v hv with h | ⟨u, h, hu⟩
      · exact ⟨_, .root h, by simpa using hv⟩
      · have := hd v u hv h; omega
    | succ k ih =>
      intro v hv hk
      rcases F.pt v hv with h | ⟨u, h, hu⟩
      · exact ⟨_, .root h, by simpa using hv⟩
      · have := hd v u hv h
        obtain ⟨l, h1, h2⟩ := ih u hu (by omega)
        refine ⟨_, .step h h1, ?_⟩
        intro x hx
        rcases List.mem_cons.1 hx with rfl | hx
        · exact hv
        · exact h2 x hx
  exact fun v hv => this _ v hv (Nat.le_refl _)

/-- r is the root of v's tree. -/
def Rt (par : Nat → Int) (v r : Nat) : Prop := ∃ l, UpW par v l ∧ l.getLast? = some r
theorem Rt.uniq {par : Nat → Int} {v r r' : Nat} (a : Rt par v r) (b : Rt par v r') : r = r' := by
  obtain ⟨l, h1, h2⟩ := a
  obtain ⟨l', h3, h4⟩ := b
  rw [h1.uniq h3, h4] at h2
  cases h2; rfl
theorem Rt.root {par : Nat → Int} {v r : Nat} (a : Rt par v r) : par r = -1 := by
  obtain ⟨l, h1, h2⟩ := a
  obtain ⟨r', h3, h4⟩ := h1.last
  rw [h2] at h3; cases h3; exact h4
theorem Rt.self {par : Nat → Int} {v : Nat} (h : par v = -1) : Rt par v v := ⟨_, .root h, rfl⟩
theorem Rt.self_iff {par : Nat → Int} {v r : Nat} (a : Rt par v r) : r = v ↔ par v = -1 :=
  ⟨fun h => by subst h; exact a.root, fun h => a.uniq (Rt.self h)⟩
theorem Rt.up {par : Nat → Int} {v u r : Nat} (h : par v = u) : Rt par u r → Rt par v r := by
  rintro ⟨l, h1, h2⟩
  exact ⟨_, .step h h1, by rw [List.getLast?_cons, h2]; rfl⟩

section
variable {n : Nat} {st : St} {L : Nat → List Nat} {par tv pd : Nat → Int}

theorem Chn.congr {par par' : Nat → Int} : ∀ {l : List Nat}, (∀ x ∈ l, par' x = par x) → Chn par l → Chn par' l := by
  intro l
  induction l with
  | nil => intro _ _; trivial
  | cons a l ih =>
    intro h hc
    have ih := ih (fun x hx => h x (List.mem_cons_of_mem _ hx)) hc.tail
    cases l with
    | nil => trivial
    | cons b l => exact ⟨by rw [h b (by simp)]; exact hc.1, ih⟩
theorem mn_congr {tv tv' : Nat → Int} : ∀ {l : List Nat}, (∀ x ∈ l, tv' x = tv x) → mn tv' l = mn tv l := by
  intro l
  induction l with
  | nil => intro _; rfl
  | cons a l ih =>
    intro h
    simp only [mn]
    rw [h a (by simp), ih (fun x hx => h x (List.mem_cons_of_mem _ hx))]

end

section
variable {n : Nat} {st : St} {L : Nat → List Nat} {par tv pd : Nat → Int}

theorem AccR.upw {v : Nat} (A : AccR n st L par tv pd v) (hv : v < n) : UpW par v (L v).reverse := by
  obtain ⟨a, l, e1, e2⟩ := A.inv.hd v hv A.top
  exact UpW.of_way (A.inv.chn v hv) (by rw [e1]; rfl) A.last (by rw [e2, A.up])
theorem AccR.alone {v : Nat} (A : AccR n st L par tv pd v) (hv : v < n) (hp : par v = -1) : L v = [v] := by
  have := (A.upw hv).uniq (.root hp)
  have h2 := congrArg List.reverse this
  simpa using h2
theorem RootR.upw {v r : Nat} (A : RootR n st L par tv pd r v) : UpW par v (L r).reverse :=
  UpW.of_way (A.inv.chn r A.rn) A.head A.last A.root
theorem RootR.rt {v r : Nat} (A : RootR n st L par tv pd r v) : Rt par v r :=
  ⟨_, A.upw, by rw [List.getLast?_reverse]; exact A.head⟩

theorem Inv.nmem (I : Inv n st L par tv pd) {v u x : Nat} (ht : Top st v) (hu : u < n) (hne : u ≠ v) (hx : x ∈ L u) : x ≠ v := by
  rintro rfl
  exact hne (I.top_of_mem hu hx ht).symm

/-- v hangs itself under w. -/
theorem AccR.link {v w : Nat} {x : Int} (A : AccR n st L par tv pd v) (F : Fst n par tv) (hv : v < n) (hw : w < n) (hp : par v = -1)
    (hx : -9223372036854775808 ≤ x ∧ x < 9223372036854775808) :
    Inv n (upd2 (pullS (upd2 st v 3 x) v) v 2 w) L (upd par v w) (upd tv v x) pd := by
  have I := A.inv
  have lv := A.alone hv hp
  have l0 : st v 0 < 0 := first_lf I F hv (by rw [lv]; rfl)
  have l1 : st v 1 < 0 := A.rt
  have l3 : least3 (upd2 st v 3 x) v = x := by
    rw [least3_eq]
    have e0 : upd2 st v 3 x v 0 = st v 0 := if_neg (by omega)
    have e1 : upd2 st v 3 x v 1 = st v 1 := if_neg (by omega)
    have e3 : upd2 st v 3 x v 3 = x := if_pos ⟨rfl, rfl⟩
    rw [e0, e1, e3]
    unfold lstep
    rw [if_neg (by omega), if_neg (by omega)]
  generalize hst : upd2 (pullS (upd2 st v 3 x) v) v 2 w = st'
  have E : ∀ u j, st' u j = if u = v then (if j = 2 then (w : Int) else if j = 4 then x else if j = 3 then x else st v j) else st u j := by
    intro u j
    rw [← hst]
    unfold pullS
    rw [l3]
    unfold upd2
    by_cases hu : u = v
    · subst hu; simp
    · simp [hu]
  have ch : ∀ u y, Ch st' u y ↔ Ch st u y := by
    intro u y
    unfold Ch
    rw [E u 0, E u 1]
    by_cases hu : u = v
    · subst hu; simp
    · simp [hu]
  have nch : ∀ u, u < n → ¬ Ch st u v := fun u hu h => A.top u (I.ch u v hu h).2 h
  have tv' : ∀ u, u ≠ v → upd tv v x u = tv u := fun u hu => if_neg hu
  have par' : ∀ u, u ≠ v → upd par v w u = par u := fun u hu => if_neg hu
  have tvv : upd tv v x v = x := if_pos rfl
  have parv : upd par v w v = w := if_pos rfl
  refine ⟨?_, ?_, ?_, ?_, ?_, ?_, ?_, ?_, ?_⟩
  · intro u y hu h
    have h := (ch u y).1 h
    have hy : y ≠ v := by rintro rfl; exact nch u hu h
    rw [E, if_neg hy]
    exact I.ch u y hu h
  · intro u hu
    rw [E]
    by_cases h : u = v
    · subst h
      rw [if_pos rfl, if_pos rfl]
      exact .inr ⟨w, rfl, hw⟩
    · rw [if_neg h]; exact I.up u hu
  · intro u hu
    rw [E, E]
    by_cases h : u = v
    · subst h
      simp only [if_true]
      exact I.ino u hu
    · rw [if_neg h, if_neg h]; exact I.ino u hu
  · intro u hu
    by_cases h : u = v
    · subst h; rw [lv]; trivial
    · exact (I.chn u hu).congr fun y hy => par' y (I.nmem A.top hu h hy)
  · intro u hu hT
    by_cases h : u = v
    · subst h
      refine ⟨u, [], lv, ?_⟩
      rw [parv, E, if_pos rfl, if_pos rfl]
    · have hT' : Top st u := by
        intro y hy hc
        exact hT y (by rw [E, if_neg h]; exact hy) ((ch y u).2 hc)
      obtain ⟨a, l, e1, e2⟩ := I.hd u hu hT'
      refine ⟨a, l, e1, ?_⟩
      rw [par' a (I.nmem A.top hu h (by rw [e1]; simp)), E, if_neg h, e2]
  · intro u hu hT
    by_cases h : u = v
    · subst h; exact A.p0
    · refine I.pdt u hu ?_
      intro y hy hc
      exact hT y (by rw [E, if_neg h]; exact hy) ((ch y u).2 hc)
  · intro u y hu h
    have h := (ch u y).1 h
    rw [I.pdc u y hu h, E]
    by_cases h2 : u = v
    · subst h2; simp
    · rw [if_neg h2]
  · intro u hu
    rw [E]
    by_cases h : u = v
    · subst h
      rw [tvv, A.p0, Int.sub_zero, w64_in hx.1 hx.2]
      simp
    · rw [if_neg h, tv' u h]; exact I.val u hu
  · intro u hu
    rw [E]
    by_cases h : u = v
    · subst h
      rw [lv, A.p0, Int.sub_zero]
      simp only [mn, tvv]
      rw [w64_in (by omega) (by omega)]
      simp; omega
    · rw [if_neg h, mn_congr fun y hy => tv' y (I.nmem A.top hu h hy)]
      exact I.lst u hu

theorem Fst.link {v w : Nat} {x : Int} (F : Fst n par tv) (hv : v < n) (hw : w < n) (hp : par v = -1) (hr : ¬ Rt par w v)
    (hx : -9223372036854775808 ≤ x ∧ x < 9223372036854775808) : Fst n (upd par v w) (upd tv v x) := by
  obtain ⟨d, hd⟩ := F.acy
  refine ⟨?_, ?_, ?_, ?_⟩
  · intro u hu
    unfold upd
    split
    · exact .inr ⟨w, rfl, hw⟩
    · exact F.pt u hu
  · have : ∀ u, Decidable (Rt par u v) := fun u => Classical.propDecidable _
    refine ⟨fun u => if Rt par u v then d u + d w + 1 else d u, ?_⟩
    intro y u hy h
    show (if Rt par u v then d u + d w + 1 else d u) < (if Rt par y v then d y + d w + 1 else d y)
    unfold upd at h
    by_cases e : y = v
    · subst e
      rw [if_pos rfl] at h
      have : u = w := by omega
      subst this
      rw [if_neg hr, if_pos (Rt.self hp)]
      omega
    · rw [if_neg e] at h
      have := hd y u hy h
      by_cases k : Rt par u v
      · rw [if_pos k, if_pos (Rt.up h k)]; omega
      · rw [if_neg k]
        split <;> omega
  · intro u hu
    unfold upd
    split
    · exact hx
    · exact F.rng u hu
  · intro u hu h
    unfold upd at h ⊢
    by_cases e : u = v
    · rw [if_pos e] at h; omega
    · rw [if_neg e] at h ⊢
      exact F.zero u hu h

/-- v leaves its parent. -/
theorem AccR.cut {v c : Nat} (A : AccR n st L par tv pd v) (F : Fst n par tv) (hv : v < n) (hc : st v 0 = c) :
    Inv n (pullS (upd2 (upd2 (upd2 st c 2 (-1)) v 0 (-1)) v 3 0) v) (fun u => if u = v then [v] else L u) (upd par v (-1)) (upd tv v 0) (fun u => if u = c then 0 else pd u) := by
  have I := A.inv
  have hcc : Ch st v c := .inl hc
  have hcn := (I.ch v c hv hcc)
  have cv : c ≠ v := I.chNe hv hcc
  have l1 : st v 1 < 0 := A.rt
  have pdz : w64 (pd c) = w64 0 := by rw [I.pdc v c hv hcc, A.p0, A.a0]; rfl
  have l3 : least3 (upd2 (upd2 (upd2 st c 2 (-1)) v 0 (-1)) v 3 0) v = 0 := by
    rw [least3_eq]
    have e0 : upd2 (upd2 (upd2 st c 2 (-1)) v 0 (-1)) v 3 0 v 0 = -1 := by simp [upd2]
    have e1 : upd2 (upd2 (upd2 st c 2 (-1)) v 0 (-1)) v 3 0 v 1 = st v 1 := by simp [upd2]
    have e3 : upd2 (upd2 (upd2 st c 2 (-1)) v 0 (-1)) v 3 0 v 3 = 0 := by simp [upd2]
    rw [e0, e1, e3]
    unfold lstep
    rw [if_neg (by omega), if_neg (by omega)]
  generalize hst : pullS (upd2 (upd2 (upd2 st c 2 (-1)) v 0 (-1)) v 3 0) v = st'
  have E : ∀ u j, st' u j = if u = v then (if j = 0 then -1 else if j = 3 ∨ j = 4 then 0 else st v j) else if u = c ∧ j = 2 then -1 else st u j := by
    intro u j
    rw [← hst]
    unfold pullS
    rw [l3]
    unfold upd2
    by_cases hu : u = v
    · subst hu
      have : ¬ u = c := fun h => cv h.symm
      by_cases j0 : j = 0
      · subst j0; simp
      · by_cases j3 : j = 3
        · subst j3; simp
        · by_cases j4 : j = 4
          · subst j4; simp
          · simp [j0, j3, j4, this]
    · simp [hu]
  have nch : ∀ u, u < n → ¬ Ch st u v := fun u hu h => A.top u (I.ch u v hu h).2 h
  have CH : ∀ u y, u < n → Ch st' u y → u ≠ v ∧ Ch st u y ∧ y ≠ c ∧ y ≠ v := by
    intro u y hu h
    by_cases huv : u = v
    · subst huv
      exfalso
      rcases h with h | h
      · rw [E, if_pos rfl, if_pos rfl] at h; omega
      · rw [E, if_pos rfl, if_neg (by omega), if_neg (by omega)] at h; omega
    · have h' : Ch st u y := by
        unfold Ch at h ⊢
        rw [E, E, if_neg huv, if_neg huv, if_neg (by omega), if_neg (by omega)] at h
        exact h
      refine ⟨huv, h', ?_, ?_⟩
      · rintro rfl
        have := (I.ch u y hu h').2
        omega
      · rintro rfl
        exact nch u hu h'
  have CH2 : ∀ u y, u ≠ v → Ch st u y → Ch st' u y := by
    intro u y huv h
    unfold Ch at h ⊢
    rw [E, E, if_neg huv, if_neg huv, if_neg (by omega), if_neg (by omega)]
    exact h
  have tv' : ∀ u, u ≠ v → upd tv v 0 u = tv u := fun u hu => if_neg hu
  have par' : ∀ u, u ≠ v → upd par v (-1) u = par u := fun u hu => if_neg hu
  have tvv : upd tv v 0 v = 0 := if_pos rfl
  have parv : upd par v (-1) v = -1 := if_pos rfl
  generalize hpd : (fun u => if u = c then (0 : Int) else pd u) = pd'
  have pdD : ∀ w, pd' w = if w = c then (0 : Int) else pd w := fun w => by rw [← hpd]
  have pdE : ∀ w, w64 (pd' w) = w64 (pd w) := by
    intro w
    rw [pdD]
    by_cases h : w = c
    · rw [if_pos h, h, pdz]
    · rw [if_neg h]
  have lvE : L v = L c ++ [v] := by
    rw [I.ino v hv, hc, LL_nat, LL_neg l1]
  have TOP : ∀ u, u < n → u ≠ v → Top st' u → u = c ∨ (u ≠ c ∧ Top st u) := by
    intro u hu huv hT
    by_cases e : u = c
    · exact .inl e
    · refine .inr ⟨e, fun y hy hc' => ?_⟩
      by_cases e2 : y = v
      · subst e2
        rcases hc' with k | k <;> omega
      · exact hT y (by rw [E, if_neg huv, if_neg (by omega)]; exact hy) (CH2 y u e2 hc')
  refine ⟨?_, ?_, ?_, ?_, ?_, ?_, ?_, ?_, ?_⟩
  · intro u y hu h
    obtain ⟨h1, h2, h3, h4⟩ := CH u y hu h
    rw [E, if_neg h4, if_neg (by omega)]
    exact I.ch u y hu h2
  · intro u hu
    rw [E]
    by_cases h : u = v
    · subst h
      rw [if_pos rfl, if_neg (by omega), if_neg (by omega)]
      exact I.up u hu
    · rw [if_neg h]
      split
      · exact .inl (by omega)
      · exact I.up u hu
  · intro u hu
    by_cases h : u = v
    · subst h
      rw [E, E, if_pos rfl, if_pos rfl, if_pos rfl, if_pos rfl, if_neg (by omega), if_neg (by omega), LL_neg (by omega), LL_neg l1]
      rfl
    · rw [E, E, if_neg h, if_neg h, if_neg h, if_neg (by omega), if_neg (by omega), I.ino u hu]
      have q : ∀ z : Int, z ≠ v → LL (fun u => if u = v then [v] else L u) z = LL L z := by
        intro z hz
        unfold LL
        split
        · exact if_neg (by omega)
        · rfl
      rw [q, q]
      · exact fun h => nch u hu (.inr h)
      · exact fun h => nch u hu (.inl h)
  · intro u hu
    by_cases h : u = v
    · show Chn _ (if u = v then [v] else L u)
      rw [if_pos h]; trivial
    · show Chn _ (if u = v then [v] else L u)
      rw [if_neg h]
      exact (I.chn u hu).congr fun y hy => par' y (I.nmem A.top hu h hy)
  · intro u hu hT
    show ∃ a l, (if u = v then [v] else L u) = a :: l ∧ _
    by_cases h : u = v
    · subst h
      rw [if_pos rfl]
      refine ⟨u, [], rfl, ?_⟩
      rw [parv, E, if_pos rfl, if_neg (by omega), if_neg (by omega), A.up]
    · rw [if_neg h]
      rcases TOP u hu h hT with e | ⟨e, hT'⟩
      · subst e
        rw [E, if_neg h, if_pos ⟨rfl, rfl⟩]
        obtain ⟨a, l, e1, e2⟩ := I.hd v hv A.top
        rw [lvE] at e1
        cases hl : L u with
        | nil => have := I.self hu; rw [hl] at this; cases this
        | cons b l' =>
          rw [hl] at e1
          simp at e1
          refine ⟨b, l', rfl, ?_⟩
          rw [par' b (I.nmem A.top hu h (by rw [hl]; simp)), e1.1, e2, A.up]
      · obtain ⟨a, l, e1, e2⟩ := I.hd u hu hT'
        refine ⟨a, l, e1, ?_⟩
        rw [par' a (I.nmem A.top hu h (by rw [e1]; simp)), E, if_neg h, if_neg (by omega), e2]
  · intro u hu hT
    rw [pdD]
    by_cases e : u = c
    · rw [if_pos e]
    · rw [if_neg e]
      by_cases h : u = v
      · subst h; exact A.p0
      · rcases TOP u hu h hT with e' | ⟨_, hT'⟩
        · exact absurd e' e
        · exact I.pdt u hu hT'
  · intro u y hu h
    obtain ⟨h1, h2, h3, h4⟩ := CH u y hu h
    rw [pdE, I.pdc u y hu h2, E, if_neg h1, if_neg (by omega)]
    obtain ⟨k, hk⟩ := w64_cg.1 (pdE u)
    exact w64_of ⟨-k, by omega⟩
  · intro u hu
    rw [E]
    by_cases h : u = v
    · subst h
      have e1 : pd' u = 0 := by rw [pdD, if_neg (fun h => cv h.symm)]; exact A.p0
      rw [if_pos rfl, if_neg (by omega), if_pos (.inl rfl), tvv, e1]
      rfl
    · rw [if_neg h, if_neg (by omega), tv' u h, I.val u hu]
      exact Inv.pd_cg (pdE u)
  · intro u hu
    rw [E]
    by_cases h : u = v
    · subst h
      have e1 : pd' u = 0 := by rw [pdD, if_neg (fun h => cv h.symm)]; exact A.p0
      have e2 : (if u = u then [u] else L u) = [u] := if_pos rfl
      rw [if_pos rfl, if_neg (by omega), if_pos (.inr rfl), e1, e2]
      simp only [mn, tvv]
      rfl
    · have e2 : (if u = v then [v] else L u) = L u := if_neg h
      rw [if_neg h, if_neg (by omega), e2, mn_congr fun y hy => tv' y (I.nmem A.top hu h hy), I.lst u hu]
      exact Inv.pd_cg (pdE u)

theorem Fst.cut {v : Nat} (F : Fst n par tv) (hv : v < n) : Fst n (upd par v (-1)) (upd tv v 0) := by
  obtain ⟨d, hd⟩ := F.acy
  refine ⟨?_, ⟨d, ?_⟩, ?_, ?_⟩
  · intro u hu
    unfold upd
    split
    · exact .inl rfl
    · exact F.pt u hu
  · intro y u hy h
    unfold upd at h
    split at h
    · omega
    · exact hd y u hy h
  · intro u hu
    unfold upd
    split
    · omega
    · exact F.rng u hu
  · intro u hu h
    unfold upd at h ⊢
    split
    · rfl
    · rename_i e
      rw [if_neg e] at h
      exact F.zero u hu h

end
end Go.Proofs.Ytgbmkfifjijoiaa
