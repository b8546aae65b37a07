import Derived.Test.YtgbmkfifjijoiaaK2
/-! What the array of nodes means: splay trees that hold ways of a forest. No program in sight. -/
namespace Go.Proofs.Ytgbmkfifjijoiaa
open Go
set_option linter.unusedVariables false

/-! ### Ways -/

def Chn (par : Nat → Int) : List Nat → Prop
  | a :: b :: l => par b = a ∧ Chn par (b :: l)
  | _ => True
theorem Chn.tail {par : Nat → Int} {a : Nat} {l : List Nat} (h : Chn par (a :: l)) : Chn par l := by
  cases l with
  | nil => trivial
  | cons b l => exact h.2
theorem Chn.append {par : Nat → Int} {l1 l2 : List Nat} : Chn par (l1 ++ l2) ↔ Chn par l1 ∧ Chn par l2 ∧ ∀ a b, l1.getLast? = some a → l2.head? = some b → par b = a := by
  induction l1 with
  | nil => simp [Chn]
  | cons x l ih =>
    cases l with
    | nil =>
      cases l2 with
      | nil => simp [Chn]
      | cons b l2 =>
        simp only [List.cons_append, List.nil_append, Chn]
        constructor
        · rintro ⟨h1, h2⟩
          exact ⟨trivial, h2, fun a c ha hc => by simp at ha hc; subst ha; subst hc; exact h1⟩
        · rintro ⟨_, h2, h3⟩
          exact ⟨h3 x b rfl rfl, h2⟩
    | cons y l =>
      simp only [List.cons_append, Chn] at ih ⊢
      rw [ih]
      simp only [List.getLast?_cons_cons]
      exact ⟨fun ⟨a, b, c, d⟩ => ⟨⟨a, b⟩, c, d⟩, fun ⟨⟨a, b⟩, c, d⟩ => ⟨a, b, c, d⟩⟩

def mn (tv : Nat → Int) : List Nat → Int
  | [] => 9223372036854775808
  | a :: l => min (tv a) (mn tv l)
theorem mn_append (tv : Nat → Int) (l1 l2 : List Nat) : mn tv (l1 ++ l2) = min (mn tv l1) (mn tv l2) ∨ (∃ a ∈ l1 ++ l2, 9223372036854775808 ≤ tv a) := by
  induction l1 with
  | nil =>
    by_cases h : ∃ a ∈ l2, 9223372036854775808 ≤ tv a
    · exact .inr h
    · left
      have : mn tv l2 ≤ 9223372036854775808 := by
        cases l2 with
        | nil => exact Int.le_refl _
        | cons b l =>
          have : tv b < 9223372036854775808 := by
            apply Int.lt_of_not_ge
            intro k; exact h ⟨b, List.mem_cons_self .., k⟩
          simp only [mn]; omega
      simp only [List.nil_append, mn]; omega
  | cons x l ih =>
    rcases ih with ih | ⟨a, ha, k⟩
    · left; simp only [List.cons_append, mn, ih]; omega
    · right; exact ⟨a, by rw [List.cons_append]; exact List.mem_cons_of_mem _ ha, k⟩

/-- The forest: each node's parent (or -1), and the value above it. -/
structure Fst (n : Nat) (par tv : Nat → Int) : Prop where
  pt : ∀ v, v < n → par v = -1 ∨ ∃ u : Nat, par v = u ∧ u < n
  acy : ∃ d : Nat → Nat, ∀ v u : Nat, v < n → par v = u → d u < d v
  rng : ∀ v, v < n → -9223372036854775808 ≤ tv v ∧ tv v < 9223372036854775808
  zero : ∀ v, v < n → par v = -1 → tv v = 0

def LL (L : Nat → List Nat) (c : Int) : List Nat := if 0 ≤ c then L c.toNat else []
theorem LL_nat (L : Nat → List Nat) (c : Nat) : LL L c = L c := by simp [LL]
theorem LL_neg {L : Nat → List Nat} {c : Int} (h : c < 0) : LL L c = [] := by unfold LL; rw [if_neg (by omega)]

/-- y is a child of u in a splay tree. -/
def Ch (st : St) (u y : Nat) : Prop := st u 0 = y ∨ st u 1 = y
def Top (st : St) (v : Nat) : Prop := ∀ u : Nat, st v 2 = u → ¬ Ch st u v
theorem topS_iff {st : St} {v : Nat} : topS st v = true ↔ Top st v := by
  unfold topS Top Ch
  by_cases h : st v 2 < 0
  · simp [h]
    intro u hu; omega
  · simp [h]
    constructor
    · intro ⟨h1, h2⟩ u hu
      rw [hu] at h1 h2
      exact ⟨h1, h2⟩
    · intro k
      exact k (st v 2).toNat (by omega)
theorem topS_false {st : St} {v : Nat} (h : topS st v = false) : ∃ u : Nat, st v 2 = u ∧ Ch st u v := by
  have : ¬ Top st v := fun t => by rw [topS_iff.2 t] at h; cases h
  unfold Top at this
  apply Classical.byContradiction
  intro k
  exact this fun u hu hc => k ⟨u, hu, hc⟩

structure Inv (n : Nat) (st : St) (L : Nat → List Nat) (par tv pd : Nat → Int) : Prop where
  ch : ∀ u y : Nat, u < n → Ch st u y → y < n ∧ st y 2 = u
  up : ∀ v, v < n → Pt n (st v 2)
  ino : ∀ v, v < n → L v = LL L (st v 0) ++ v :: LL L (st v 1)
  chn : ∀ v, v < n → Chn par (L v)
  hd : ∀ v, v < n → Top st v → ∃ a l, L v = a :: l ∧ par a = st v 2
  pdt : ∀ v, v < n → Top st v → pd v = 0
  pdc : ∀ u y : Nat, u < n → Ch st u y → w64 (pd y) = w64 (pd u + st u 5)
  val : ∀ v, v < n → st v 3 = w64 (tv v - pd v)
  lst : ∀ v, v < n → st v 4 = w64 (mn tv (L v) - pd v)

section
variable {n : Nat} {st : St} {L : Nat → List Nat} {par tv pd : Nat → Int}

theorem Inv.self (I : Inv n st L par tv pd) {v : Nat} (hv : v < n) : v ∈ L v := by
  rw [I.ino v hv]; simp
theorem Inv.sub (I : Inv n st L par tv pd) {u y x : Nat} (hu : u < n) (h : Ch st u y) (hx : x ∈ L y) : x ∈ L u := by
  rw [I.ino u hu]
  rcases h with h | h <;> rw [h, LL_nat] <;> simp [hx]
theorem Inv.len (I : Inv n st L par tv pd) {u y : Nat} (hu : u < n) (h : Ch st u y) : (L y).length < (L u).length := by
  rw [I.ino u hu]
  rcases h with h | h <;> rw [h, LL_nat] <;> simp <;> omega
theorem Inv.ind (I : Inv n st L par tv pd) {P : Nat → Prop} (h : ∀ v, v < n → (∀ c, Ch st v c → P c) → P v) : ∀ v, v < n → P v := by
  have : ∀ k v, v < n → (L v).length ≤ k → P v := by
    intro k
    induction k with
    | zero => intro v hv hk; exact absurd (I.self hv) (by rw [List.eq_nil_of_length_eq_zero (l := L v) (by omega)]; simp)
    | succ k ih =>
      intro v hv hk
      refine h v hv fun c hc => ih c (I.ch v c hv hc).1 ?_
      have := I.len hv hc
      omega
  exact fun v hv => this _ v hv (Nat.le_refl _)
theorem Inv.mem (I : Inv n st L par tv pd) {v x : Nat} (hv : v < n) : x ∈ L v ↔ x = v ∨ ∃ c, Ch st v c ∧ x ∈ L c := by
  constructor
  · intro h
    rw [I.ino v hv] at h
    simp only [List.mem_append, List.mem_cons] at h
    have key : ∀ c : Int, x ∈ LL L c → ∃ w : Nat, c = w ∧ x ∈ L w := by
      intro c hc
      by_cases h0 : 0 ≤ c
      · refine ⟨c.toNat, by omega, ?_⟩
        unfold LL at hc
        rwa [if_pos h0] at hc
      · rw [LL_neg (by omega)] at hc
        cases hc
    rcases h with h | h | h
    · obtain ⟨w, e, hw⟩ := key _ h
      exact .inr ⟨w, .inl e, hw⟩
    · exact .inl h
    · obtain ⟨w, e, hw⟩ := key _ h
      exact .inr ⟨w, .inr e, hw⟩
  · rintro (rfl | ⟨c, hc, hx⟩)
    · exact I.self hv
    · exact I.sub hv hc hx
theorem Inv.lt (I : Inv n st L par tv pd) : ∀ v, v < n → ∀ x ∈ L v, x < n := by
  refine I.ind fun v hv ih x hx => ?_
  rcases (I.mem hv).1 hx with rfl | ⟨c, hc, hx⟩
  · exact hv
  · exact ih c hc x hx
/-- Who stands above a node in its splay tree. -/
theorem Inv.anc (I : Inv n st L par tv pd) : ∀ w, w < n → ∀ y ∈ L w, y = w ∨ ∃ u : Nat, st y 2 = u ∧ u < n ∧ Ch st u y ∧ u ∈ L w := by
  refine I.ind fun w hw ih y hy => ?_
  rcases (I.mem hw).1 hy with rfl | ⟨c, hc, hx⟩
  · exact .inl rfl
  · right
    rcases ih c hc y hx with rfl | ⟨u, hu, hun, hcu, huc⟩
    · exact ⟨w, (I.ch w y hw hc).2, hw, hc, I.self hw⟩
    · exact ⟨u, hu, hun, hcu, I.sub hw hc huc⟩
theorem Inv.cmp (I : Inv n st L par tv pd) {b : Nat} (hb : b < n) : ∀ a, a < n → ∀ y, y ∈ L a → y ∈ L b → a ∈ L b ∨ b ∈ L a := by
  refine I.ind fun a ha ih y hya hyb => ?_
  rcases (I.mem ha).1 hya with rfl | ⟨c, hc, hx⟩
  · exact .inl hyb
  · rcases ih c hc y hx hyb with h | h
    · rcases I.anc b hb c h with rfl | ⟨u, hu, hun, hcu, hub⟩
      · exact .inr (I.sub ha hc (I.self (I.ch a c ha hc).1))
      · have := (I.ch a c ha hc).2
        have e : u = a := by omega
        subst e
        exact .inl hub
    · exact .inr (I.sub ha hc h)
theorem Inv.mlen (I : Inv n st L par tv pd) : ∀ w, w < n → ∀ y ∈ L w, y = w ∨ (L y).length < (L w).length := by
  refine I.ind fun w hw ih y hy => ?_
  rcases (I.mem hw).1 hy with rfl | ⟨c, hc, hx⟩
  · exact .inl rfl
  · right
    have := I.len hw hc
    rcases ih c hc y hx with rfl | h
    · exact this
    · omega
theorem Inv.mtrans (I : Inv n st L par tv pd) : ∀ w, w < n → ∀ y ∈ L w, ∀ x ∈ L y, x ∈ L w := by
  refine I.ind fun w hw ih y hy x hx => ?_
  rcases (I.mem hw).1 hy with rfl | ⟨c, hc, hy⟩
  · exact hx
  · exact I.sub hw hc (ih c hc y hy x hx)

theorem Chn.pair {par : Nat → Int} {d : Nat → Nat} {n : Nat} (hd : ∀ v u : Nat, v < n → par v = u → d u < d v) :
    ∀ {l : List Nat}, Chn par l → (∀ x ∈ l, x < n) → l.Pairwise fun a b => d a < d b := by
  intro l
  induction l with
  | nil => intro _ _; exact List.Pairwise.nil
  | cons a l ih =>
    intro h hl
    have ih := ih h.tail (fun x hx => hl x (List.mem_cons_of_mem _ hx))
    refine List.Pairwise.cons ?_ ih
    cases l with
    | nil => intro b hb; cases hb
    | cons b l =>
      have h1 : d a < d b := hd b a (hl b (by simp)) h.1
      intro c hc
      rcases List.mem_cons.1 hc with rfl | hc
      · exact h1
      · have := (List.pairwise_cons.1 ih).1 c hc
        omega
theorem short {n : Nat} : ∀ {l : List Nat}, l.Nodup → (∀ x ∈ l, x < n) → l.length ≤ n := by
  induction n with
  | zero =>
    intro l _ h
    cases l with
    | nil => simp
    | cons a l => exact absurd (h a (by simp)) (by omega)
  | succ n ih =>
    intro l hn h
    have h1 := ih (hn.erase n) (fun x hx => by
      have := (hn.mem_erase_iff).1 hx
      have := h x this.2
      omega)
    by_cases hm : n ∈ l
    · rw [List.length_erase_of_mem hm] at h1; omega
    · rw [List.erase_of_not_mem hm] at h1; omega
theorem Inv.nodup (I : Inv n st L par tv pd) (F : Fst n par tv) {v : Nat} (hv : v < n) : (L v).Nodup := by
  obtain ⟨d, hd⟩ := F.acy
  refine (Chn.pair hd (I.chn v hv) (I.lt v hv)).imp ?_
  intro a b h e
  subst e
  omega
theorem Inv.short (I : Inv n st L par tv pd) (F : Fst n par tv) {v : Nat} (hv : v < n) : (L v).length ≤ n :=
  Go.Proofs.Ytgbmkfifjijoiaa.short (I.nodup F hv) (I.lt v hv)

theorem Inv.mnEq (I : Inv n st L par tv pd) (F : Fst n par tv) {v : Nat} (hv : v < n) :
    mn tv (L v) = min (min (mn tv (LL L (st v 0))) (tv v)) (mn tv (LL L (st v 1))) := by
  have hr : ∀ a ∈ L v, tv a < 9223372036854775808 := fun a ha => (F.rng a (I.lt v hv a ha)).2
  rw [I.ino v hv] at hr ⊢
  rcases mn_append tv (LL L (st v 0)) (v :: LL L (st v 1)) with h | ⟨a, ha, k⟩
  · rw [h]; simp only [mn]; omega
  · have := hr a ha; omega
theorem Inv.mnRng (I : Inv n st L par tv pd) (F : Fst n par tv) : ∀ v, v < n → -9223372036854775808 ≤ mn tv (L v) ∧ mn tv (L v) < 9223372036854775808 := by
  have low : ∀ l : List Nat, (∀ a ∈ l, -9223372036854775808 ≤ tv a) → -9223372036854775808 ≤ mn tv l := by
    intro l
    induction l with
    | nil => intro _; simp only [mn]; omega
    | cons a l ih =>
      intro h
      have := ih (fun x hx => h x (List.mem_cons_of_mem _ hx))
      have := h a (by simp)
      simp only [mn]; omega
  intro v hv
  refine ⟨low _ fun a ha => (F.rng a (I.lt v hv a ha)).1, ?_⟩
  have := F.rng v hv
  rw [I.mnEq F hv]
  omega

end
end Go.Proofs.Ytgbmkfifjijoiaa
