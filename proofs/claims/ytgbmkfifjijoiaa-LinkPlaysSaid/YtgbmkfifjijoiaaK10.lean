import Derived.Test.YtgbmkfifjijoiaaK9
/-! access and root. -/
namespace Go.Proofs.Ytgbmkfifjijoiaa
open Go
set_option linter.unusedVariables false

theorem LL_cons_of {L : Nat → List Nat} {c : Int} {x : Nat} (h : c = x) : LL L c = L x := by subst h; exact LL_nat L x

section
variable {n : Nat} {st : St} {L : Nat → List Nat} {par tv pd : Nat → Int}

theorem Inv.pd_cg {pd' : Nat → Int} {v : Nat} {x : Int} (h : w64 (pd' v) = w64 (pd v)) : w64 (x - pd v) = w64 (x - pd' v) := by
  obtain ⟨k, hk⟩ := w64_cg.1 h
  exact w64_of ⟨k, by omega⟩

/-- A child under nothing that is still to be added has its least. -/
theorem Inv.lstZ (I : Inv n st L par tv pd) (F : Fst n par tv) {c : Nat} (hc : c < n) (h : w64 (pd c) = w64 0) : st c 4 = mn tv (L c) := by
  rw [I.lst c hc]
  obtain ⟨k, hk⟩ := w64_cg.1 h
  have r := I.mnRng F c hc
  have : w64 (mn tv (L c) - pd c) = w64 (mn tv (L c)) := w64_of ⟨-k, by omega⟩
  rw [this, w64_in r.1 r.2]

def hang (st : St) (u : Nat) (c : Int) : St := pullS (upd2 st u 1 c) u
theorem hang_eq {st : St} {u : Nat} {c : Int} (w j : Nat) : hang st u c w j = if w = u ∧ j = 4 then least3 (upd2 st u 1 c) u else if w = u ∧ j = 1 then c else st w j := by
  unfold hang pullS
  show upd2 (upd2 st u 1 c) u 4 _ w j = _
  unfold upd2
  rfl

/-- What hangs on the right of a top becomes another way; the old right side is a way of its own. -/
theorem Inv.hang_ (I : Inv n st L par tv pd) (F : Fst n par tv) {u : Nat} {c : Int} (hu : u < n) (ht : Top st u) (a0 : st u 5 = 0) (p0 : pd u = 0)
    (hc : c = -1 ∨ ∃ x : Nat, c = x ∧ x < n ∧ Top st x ∧ st x 2 = u ∧ x ≠ u) :
    Inv n (hang st u c) (fun w => if w = u then LL L (st u 0) ++ u :: LL L c else L w) par tv (fun w => if Ch st u w then 0 else pd w) ∧ Top (hang st u c) u := by
  have e : ∀ w j, j ≠ 4 → hang st u c w j = if w = u ∧ j = 1 then c else st w j := by
    intro w j hj; rw [hang_eq, if_neg (by omega)]
  have cne : c ≠ u := by
    rcases hc with h | ⟨x, h, _, _, _, hx⟩ <;> omega
  have CH : ∀ w y : Nat, w < n → Ch (hang st u c) w y → (w = u ∧ c = y ∧ y < n ∧ st y 2 = u ∧ Top st y ∧ y ≠ u) ∨ Ch st w y := by
    intro w y hw h
    rcases h with h | h
    · rw [e _ _ (by decide), if_neg (by omega)] at h
      exact .inr (.inl h)
    · rw [e _ _ (by decide)] at h
      by_cases hwu : w = u
      · rw [if_pos ⟨hwu, rfl⟩] at h
        rcases hc with hc | ⟨x, hx, hxn, hT, h2, hxu⟩
        · omega
        · have : x = y := by omega
          subst this
          exact .inl ⟨hwu, hx, hxn, h2, hT, hxu⟩
      · rw [if_neg (fun h => hwu h.1)] at h
        exact .inr (.inr h)
  have nchu : ∀ w, w < n → ¬ Ch st w u := fun w hw h => ht w (I.ch w u hw h).2 h
  have pz : ∀ y, Ch st u y → w64 (pd y) = w64 0 := fun y hy => by rw [I.pdc u y hu hy, p0, a0]; rfl
  generalize hpd : (fun w => if Ch st u w then (0 : Int) else pd w) = pd'
  have pdE : ∀ w, w64 (pd' w) = w64 (pd w) := by
    intro w
    rw [← hpd]
    by_cases h : Ch st u w
    · show w64 (if Ch st u w then 0 else pd w) = _
      rw [if_pos h, pz w h]
    · show w64 (if Ch st u w then 0 else pd w) = _
      rw [if_neg h]
  generalize hL : (fun w => if w = u then LL L (st u 0) ++ u :: LL L c else L w) = L'
  have Lu : L' u = LL L (st u 0) ++ u :: LL L c := by rw [← hL]; exact if_pos rfl
  have Lo : ∀ w, w ≠ u → L' w = L w := fun w hw => by rw [← hL]; exact if_neg hw
  have LLo : ∀ x : Int, x ≠ u → LL L' x = LL L x := by
    intro x hx
    unfold LL
    split
    · exact Lo _ (by omega)
    · rfl
  have u0 : st u 0 ≠ u := fun h => I.chNe hu (.inl h) rfl
  have INO : ∀ w, w < n → L' w = LL L' (hang st u c w 0) ++ w :: LL L' (hang st u c w 1) := by
    intro w hw
    rw [e _ _ (by decide), e _ _ (by decide), if_neg (by omega)]
    by_cases hwu : w = u
    · subst hwu
      rw [if_pos ⟨rfl, rfl⟩, Lu, LLo _ u0, LLo _ cne]
    · rw [if_neg (fun h => hwu h.1), Lo w hwu, I.ino w hw, LLo, LLo]
      · exact fun h => nchu w hw (.inr h)
      · exact fun h => nchu w hw (.inl h)
  have topu : Top (hang st u c) u := by
    intro w hw h
    rw [e _ _ (by decide), if_neg (by omega)] at hw
    have hwn := I.upn hu hw
    rcases CH w u hwn h with ⟨_, _, _, _, _, hne⟩ | h
    · exact hne rfl
    · exact nchu w hwn h
  have chu := I.chn u hu
  rw [I.ino u hu] at chu
  have TOP : ∀ w, w < n → w ≠ u → Top (hang st u c) w → (Top st w ∨ st u 1 = w) := by
    intro w hw hwu hT
    by_cases h1 : Top st w
    · exact .inl h1
    · obtain ⟨y, hy, hcy⟩ := not_top h1
      have hyn := I.upn hw hy
      have e2 : hang st u c w 2 = y := by rw [e _ _ (by decide), if_neg (by omega)]; exact hy
      have hn := hT y e2
      rcases hcy with k | k
      · exact absurd (.inl (by rw [e _ _ (by decide), if_neg (by omega)]; exact k)) hn
      · by_cases hyu : y = u
        · subst hyu; exact .inr k
        · exact absurd (.inr (by rw [e _ _ (by decide), if_neg (fun h => hyu h.1)]; exact k)) hn
  refine ⟨⟨?_, ?_, INO, ?_, ?_, ?_, ?_, ?_, ?_⟩, topu⟩
  · intro w y hw h
    rw [e _ _ (by decide), if_neg (by omega)]
    rcases CH w y hw h with ⟨rfl, _, h1, h2, _⟩ | h
    · exact ⟨h1, h2⟩
    · exact I.ch w y hw h
  · intro w hw
    rw [e _ _ (by decide), if_neg (by omega)]
    exact I.up w hw
  · intro w hw
    by_cases hwu : w = u
    · subst hwu
      rw [Lu]
      have h1 : Chn par (LL L (st w 0) ++ [w]) := by
        rw [show LL L (st w 0) ++ w :: LL L (st w 1) = (LL L (st w 0) ++ [w]) ++ LL L (st w 1) by simp] at chu
        exact (Chn.append.1 chu).1
      rw [show LL L (st w 0) ++ w :: LL L c = (LL L (st w 0) ++ [w]) ++ LL L c by simp]
      refine Chn.append.2 ⟨h1, ?_, ?_⟩
      · rcases hc with rfl | ⟨x, rfl, hx, _⟩
        · trivial
        · rw [LL_nat]; exact I.chn x hx
      · intro a b ha hb
        simp at ha
        subst ha
        rcases hc with rfl | ⟨x, rfl, hx, hT, h2, _⟩
        · cases hb
        · rw [LL_nat] at hb
          obtain ⟨b', l, e1, e2⟩ := I.hd x hx hT
          rw [e1] at hb
          cases hb
          rw [e2, h2]
    · rw [Lo w hwu]; exact I.chn w hw
  · intro w hw hT
    rw [e _ _ (by decide), if_neg (by omega)]
    by_cases hwu : w = u
    · subst hwu
      obtain ⟨a, l, e1, e2⟩ := I.hd w hw ht
      rw [I.ino w hw] at e1
      rw [Lu]
      cases h0 : LL L (st w 0) with
      | nil =>
        rw [h0] at e1
        cases e1
        exact ⟨w, _, rfl, e2⟩
      | cons b l0 =>
        rw [h0] at e1
        cases e1
        exact ⟨a, _, rfl, e2⟩
    · rw [Lo w hwu]
      rcases TOP w hw hwu hT with h | h
      · exact I.hd w hw h
      · have hcw : Ch st u w := .inr h
        have w2 := (I.ch u w hu hcw).2
        rw [show LL L (st u 0) ++ u :: LL L (st u 1) = (LL L (st u 0) ++ [u]) ++ LL L (st u 1) by simp] at chu
        have := (Chn.append.1 chu).2.2
        rw [h, LL_nat] at this
        cases hl : L w with
        | nil => have := I.self hw; rw [hl] at this; cases this
        | cons b l =>
          refine ⟨b, l, rfl, ?_⟩
          rw [w2]
          exact this u b (by simp) (by rw [hl]; rfl)
  · intro w hw hT
    rw [← hpd]
    show (if Ch st u w then (0 : Int) else pd w) = 0
    by_cases h : Ch st u w
    · rw [if_pos h]
    · rw [if_neg h]
      by_cases hwu : w = u
      · subst hwu; exact p0
      · rcases TOP w hw hwu hT with h1 | h1
        · exact I.pdt w hw h1
        · exact absurd (.inr h1) h
  · intro w y hw h
    rw [e _ _ (by decide), if_neg (by omega), pdE]
    have pw : w64 (pd' w + st w 5) = w64 (pd w + st w 5) := by
      obtain ⟨k, hk⟩ := w64_cg.1 (pdE w)
      exact w64_of ⟨k, by omega⟩
    rw [pw]
    rcases CH w y hw h with ⟨rfl, _, h1, h2, h3, _⟩ | h
    · rw [p0, a0, I.pdt y h1 h3]; rfl
    · exact I.pdc w y hw h
  · intro w hw
    rw [e _ _ (by decide), if_neg (by omega), I.val w hw]
    exact Inv.pd_cg (pdE w)
  · intro w hw
    rw [hang_eq]
    by_cases hwu : w = u
    · subst hwu
      rw [if_pos ⟨rfl, rfl⟩]
      have rng : ∀ a ∈ L' w, a < n := by
        intro a ha
        rw [Lu] at ha
        simp only [List.mem_append, List.mem_cons] at ha
        have key : ∀ z : Int, z < 0 ∨ (∃ y : Nat, z = y ∧ y < n) → a ∈ LL L z → a < n := by
          rintro z (h | ⟨y, rfl, hy⟩) hz
          · rw [LL_neg h] at hz; cases hz
          · rw [LL_nat] at hz; exact I.lt y hy a hz
        rcases ha with h | h | h
        · exact key _ (pt_of I hw (by decide)) h
        · omega
        · refine key _ ?_ h
          rcases hc with h | ⟨x, h, hx, _⟩
          · exact .inl (by omega)
          · exact .inr ⟨x, h, hx⟩
      have e3 : least3 (upd2 st w 1 c) w = mn tv (L' w) := by
        have q : ∀ x j, upd2 st w 1 c x j = if x = w ∧ j = 1 then c else st x j := fun _ _ => rfl
        refine least3_ok ?_ ?_ ?_ (fun a ha => (F.rng a (rng a ha)).2)
        · rw [q, if_neg (by omega), I.val w hw, p0, Int.sub_zero, w64_in (F.rng w hw).1 (F.rng w hw).2]
        · intro y hy
          rw [q, if_neg (by omega)]
          have hy' : y < n ∧ w64 (pd y) = w64 0 ∧ y ≠ w := by
            rcases hy with h | h
            · rw [q, if_neg (by omega)] at h
              exact ⟨(I.ch w y hw (.inl h)).1, pz y (.inl h), I.chNe hw (.inl h)⟩
            · rw [q, if_pos ⟨rfl, rfl⟩] at h
              rcases hc with hc | ⟨x, hx, hxn, hT, h2, hxu⟩
              · omega
              · have : x = y := by omega
                subst this
                exact ⟨hxn, by rw [I.pdt x hxn hT], hxu⟩
          rw [I.lstZ F hy'.1 hy'.2.1, Lo y hy'.2.2]
        · rw [q, q, if_neg (by omega), if_pos ⟨rfl, rfl⟩, Lu, LLo _ u0, LLo _ cne]
      rw [e3]
      have pw : pd' w = 0 := by
        rw [← hpd]
        show (if Ch st w w then (0 : Int) else pd w) = 0
        rw [if_neg (fun h => I.chNe hw h rfl)]; exact p0
      rw [pw, Int.sub_zero, w64_in (mn_low _ fun a ha => (F.rng a (rng a ha)).1) (mn_high (a := w) (by rw [Lu]; simp) (F.rng w hw).2)]
    · rw [if_neg (fun h => hwu h.1), if_neg (by omega), Lo w hwu, I.lst w hw]
      exact Inv.pd_cg (pdE w)

/-- The depth of a way's first node is the least. -/
theorem Inv.head_d (I : Inv n st L par tv pd) {d : Nat → Nat} (hd : ∀ v u : Nat, v < n → par v = u → d u < d v) {v a : Nat} {l : List Nat} (hv : v < n) (hl : L v = a :: l) :
    ∀ x ∈ L v, d a ≤ d x := by
  have := Chn.pair hd (I.chn v hv) (I.lt v hv)
  rw [hl] at this ⊢
  intro x hx
  rcases List.mem_cons.1 hx with rfl | hx
  · exact Nat.le_refl _
  · exact Nat.le_of_lt ((List.pairwise_cons.1 this).1 x hx)

end
end Go.Proofs.Ytgbmkfifjijoiaa
