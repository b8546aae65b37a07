import Derived.Test.YtgbmkfifjijoiaaK6
/-! What rotate keeps: the whole. -/
namespace Go.Proofs.Ytgbmkfifjijoiaa
open Go
set_option linter.unusedVariables false

section
variable {n : Nat} {st : St} {L : Nat → List Nat} {par tv pd : Nat → Int}

theorem least3_ok {s : St} {L : Nat → List Nat} {tv : Nat → Int} {v : Nat} (hv : s v 3 = tv v) (hc : ∀ c : Nat, Ch s v c → s c 4 = mn tv (L c))
    (hl : L v = LL L (s v 0) ++ v :: LL L (s v 1)) (hr : ∀ a ∈ L v, tv a < 9223372036854775808) : least3 s v = mn tv (L v) := by
  rw [hl] at hr ⊢
  have hvr := hr v (by simp)
  have e : mn tv (LL L (s v 0) ++ v :: LL L (s v 1)) = min (mn tv (LL L (s v 0))) (min (tv v) (mn tv (LL L (s v 1)))) := by
    rcases mn_append tv (LL L (s v 0)) (v :: LL L (s v 1)) with h | ⟨a, ha, k⟩
    · rw [h]; rfl
    · have := hr a ha; omega
  rw [e, least3_eq]
  have key : ∀ c : Int, (∀ w : Nat, c = w → s w 4 = mn tv (L w)) → ∀ a, a < 9223372036854775808 → lstep s c a = min a (mn tv (LL L c)) := by
    intro c h a ha
    unfold lstep
    by_cases h0 : 0 ≤ c
    · rw [if_pos h0]
      have e := h c.toNat (by omega)
      rw [e]
      have : LL L c = L c.toNat := by unfold LL; rw [if_pos h0]
      rw [this]
      split <;> omega
    · rw [if_neg h0, LL_neg (by omega)]
      simp only [mn]; omega
  rw [key (s v 1) (fun w hw => hc w (.inr hw)), key (s v 0) (fun w hw => hc w (.inl hw)), hv]
  · omega
  · omega
  · rw [key (s v 0) (fun w hw => hc w (.inl hw)) _ (by omega)]; omega

theorem mn_low {tv : Nat → Int} : ∀ l : List Nat, (∀ a ∈ l, -9223372036854775808 ≤ tv a) → -9223372036854775808 ≤ mn tv l := by
  intro l
  induction l with
  | nil => intro _; simp only [mn]; omega
  | cons a l ih =>
    intro h
    have := ih (fun x hx => h x (List.mem_cons_of_mem _ hx))
    have := h a (by simp)
    simp only [mn]; omega
theorem mn_le {tv : Nat → Int} {l : List Nat} {a : Nat} (h : a ∈ l) : mn tv l ≤ tv a := by
  induction l with
  | nil => cases h
  | cons b l ih =>
    simp only [mn]
    rcases List.mem_cons.1 h with rfl | h
    · omega
    · have := ih h; omega
theorem mn_high {tv : Nat → Int} {l : List Nat} {a : Nat} (h : a ∈ l) (k : tv a < 9223372036854775808) : mn tv l < 9223372036854775808 := by
  have := mn_le (tv := tv) h
  omega

def rotLs (st : St) (L : Nat → List Nat) (v u s : Nat) : Nat → List Nat := fun w =>
  if w = v then L u else if w = u then (if s = 0 then LL L (st v 1) ++ u :: LL L (st u 1) else LL L (st u 0) ++ u :: LL L (st v 0)) else L w

theorem rotateS_ne {v u w j : Nat} (hj : j ≠ 4) : rotateS st v u w j = rotL st v u w j := by
  unfold rotateS pullS upd2
  rw [if_neg (by omega), if_neg (by omega)]

structure RotR (n : Nat) (st st' : St) (L L' : Nat → List Nat) (par tv pd : Nat → Int) (v u : Nat) : Prop where
  inv : Inv n st' L' par tv pd
  lv : L' v = L u
  lo : ∀ w, w ≠ v → w ≠ u → L' w = L w
  e5 : ∀ w, w < n → st' w 5 = st w 5
  e2 : st' v 2 = st u 2
  fr : ∀ w, w < n → w ≠ v → w ≠ u → Top st w → Top st' w ∧ st' w 2 = st w 2
  p1 : Pc n u (rotL st v u u 0)
  p2 : Pc n u (rotL st v u u 1)
  p3 : Pc n v (rotL st v u v 0)
  p4 : Pc n v (rotL st v u v 1)
  hi : Pt n (inner (rot2 (rot1 st v u) v u) v u)
  /-- v's new subtrees -/
  tops : Top st u → Top st' v

theorem Inv.rotate (I : Inv n st L par tv pd) (F : Fst n par tv) {v u s o : Nat} (hv : v < n) (hun : u < n) (hs : Side st u v s o)
    (av : st v 5 = 0) (au : st u 5 = 0) (pv : pd v = 0) (pu : pd u = 0) :
    RotR n st (rotateS st v u) L (rotLs st L v u s) par tv pd v u := by
  have hc : Ch st u v := hs.ch.2 (.inl hs.at_)
  have ne : v ≠ u := I.chNe hun hc
  obtain ⟨E, hin, e4⟩ := rotL_eq I F hv hun hs
  generalize hst : rotateS st v u = st'
  have q : ∀ w j, j ≠ 4 → st' w j = rotL st v u w j := by
    intro w j hj; rw [← hst]; exact rotateS_ne hj
  have s2 : s < 2 ∧ o < 2 ∧ s ≠ o := by rcases hs.so with ⟨rfl, rfl⟩ | ⟨rfl, rfl⟩ <;> decide
  have es : ∀ w, w < n → st' w s = if w = u then st v o else if st w s = u then (v : Int) else st w s := by
    intro w hw; rw [q _ _ (by omega)]; exact E.es w hw
  have eo : ∀ w, w < n → st' w o = if w = v then (u : Int) else if st w o = u then (v : Int) else st w o := by
    intro w hw; rw [q _ _ (by omega)]; exact E.eo w hw
  have e2 : ∀ w, w < n → st' w 2 = if w = u then (v : Int) else if w = v then st u 2 else if st v o = w then (u : Int) else st w 2 := by
    intro w hw; rw [q _ _ (by omega)]; exact E.e2 w hw
  have e3 : ∀ w, w < n → st' w 3 = st w 3 := by
    intro w hw; rw [q _ _ (by omega)]; exact E.e3 w hw 3 (by decide) (by decide)
  have e5 : ∀ w, w < n → st' w 5 = st w 5 := by
    intro w hw; rw [q _ _ (by omega)]; exact E.e3 w hw 5 (by decide) (by decide)
  have st2v : st v 2 = u := (I.ch u v hun hc).2
  have chs : ∀ {x y : Nat}, Ch st x y ↔ st x s = y ∨ st x o = y := fun {x y} => hs.ch
  have chs' : ∀ {x y : Nat}, Ch st' x y ↔ st' x s = y ∨ st' x o = y := by
    intro x y
    unfold Ch
    rcases hs.so with ⟨rfl, rfl⟩ | ⟨rfl, rfl⟩
    · exact Iff.rfl
    · exact Or.comm
  have nlr : ∀ x y : Nat, x < n → st x s = y → st x o = y → False := by
    intro x y hx h1 h2
    rcases hs.so with ⟨rfl, rfl⟩ | ⟨rfl, rfl⟩
    · exact I.lr F hx h1 h2
    · exact I.lr F hx h2 h1
  -- u is no child of v
  have nvu : ¬ Ch st v u := by
    intro h
    have := I.len hv h
    have := I.len hun hc
    omega
  have nvv : ¬ Ch st v v := fun h => I.chNe hv h rfl
  have nuu : ¬ Ch st u u := fun h => I.chNe hun h rfl
  have nuo : ¬ st u o = v := fun h => nlr u v hun hs.at_ h
  have CH : ∀ w y : Nat, w < n → Ch st' w y → y < n ∧ st' y 2 = w ∧ w64 (pd y) = w64 (pd w + st' w 5) ∧ y ≠ w := by
    intro w y hw h
    rw [e5 w hw]
    rcases chs'.1 h with h | h
    · rw [es w hw] at h
      by_cases h1 : w = u
      · subst h1
        rw [if_pos rfl] at h
        have hy := I.ch v y hv (chs.2 (.inr h))
        have y1 : y ≠ w := fun e => nvu (chs.2 (.inr (by omega)))
        have y2 : y ≠ v := fun e => nvv (chs.2 (.inr (by omega)))
        refine ⟨hy.1, by rw [e2 y hy.1, if_neg y1, if_neg y2, if_pos h], ?_, y1⟩
        rw [I.pdc v y hv (chs.2 (.inr h)), pv, av, pu, au]
      · rw [if_neg h1] at h
        by_cases h2 : st w s = u
        · rw [if_pos h2] at h
          have : y = v := by omega
          subst this
          refine ⟨hv, ?_, ?_, ?_⟩
          · rw [e2 y hv, if_neg ne, if_pos rfl]
            exact (I.ch w u hw (chs.2 (.inl h2))).2
          · rw [← I.pdc w u hw (chs.2 (.inl h2)), pv, pu]
          · rintro rfl; exact nvu (chs.2 (.inl h2))
        · rw [if_neg h2] at h
          have hcy : Ch st w y := chs.2 (.inl h)
          have hy := I.ch w y hw hcy
          have y1 : y ≠ u := by rintro rfl; exact h2 h
          have y2 : y ≠ v := by rintro rfl; omega
          have y3 : ¬ st v o = y := by
            intro k
            have := (I.ch v y hv (chs.2 (.inr k))).2
            have : w = v := by omega
            subst this
            exact nlr w y hw h k
          exact ⟨hy.1, by rw [e2 y hy.1, if_neg y1, if_neg y2, if_neg y3]; exact hy.2, I.pdc w y hw hcy, I.chNe hw hcy⟩
    · rw [eo w hw] at h
      by_cases h1 : w = v
      · subst h1
        rw [if_pos rfl] at h
        have : y = u := by omega
        subst this
        refine ⟨hun, by rw [e2 y hun, if_pos rfl], ?_, fun h => ne h.symm⟩
        rw [pu, pv, av]; rfl
      · rw [if_neg h1] at h
        by_cases h2 : st w o = u
        · rw [if_pos h2] at h
          have : y = v := by omega
          subst this
          refine ⟨hv, ?_, ?_, fun h => h1 h.symm⟩
          · rw [e2 y hv, if_neg ne, if_pos rfl]
            exact (I.ch w u hw (chs.2 (.inr h2))).2
          · rw [← I.pdc w u hw (chs.2 (.inr h2)), pv, pu]
        · rw [if_neg h2] at h
          have hcy : Ch st w y := chs.2 (.inr h)
          have hy := I.ch w y hw hcy
          have y1 : y ≠ u := by rintro rfl; exact h2 h
          have y2 : y ≠ v := by
            rintro rfl
            have : w = u := by omega
            subst this
            exact nuo h
          have y3 : ¬ st v o = y := by
            intro k
            have := (I.ch v y hv (chs.2 (.inr k))).2
            omega
          exact ⟨hy.1, by rw [e2 y hy.1, if_neg y1, if_neg y2, if_neg y3]; exact hy.2, I.pdc w y hw hcy, I.chNe hw hcy⟩
  -- the lists
  generalize hL : rotLs st L v u s = L'
  have Lv : L' v = L u := by rw [← hL]; unfold rotLs; rw [if_pos rfl]
  have Lo : ∀ w, w ≠ v → w ≠ u → L' w = L w := by
    intro w h1 h2; rw [← hL]; unfold rotLs; rw [if_neg h1, if_neg h2]
  have Lu : L' u = if s = 0 then LL L (st v 1) ++ u :: LL L (st u 1) else LL L (st u 0) ++ u :: LL L (st v 0) := by
    rw [← hL]; unfold rotLs; rw [if_neg (fun h => ne h.symm), if_pos rfl]
  have LLo : ∀ x : Int, x ≠ v → x ≠ u → LL L' x = LL L x := by
    intro x h1 h2
    unfold LL
    split
    · exact Lo _ (by omega) (by omega)
    · rfl
  have nk : ∀ w k, w < n → k < 2 → ∀ y : Nat, st w k = y → Ch st w y := by
    intro w k hw hk y h
    have : k = 0 ∨ k = 1 := by omega
    rcases this with rfl | rfl
    · exact .inl h
    · exact .inr h
  have LLw : ∀ w, w < n → w ≠ u → w ≠ v → LL L' (st' w s) = LL L (st w s) ∧ LL L' (st' w o) = LL L (st w o) := by
    intro w hw h1 h2
    rw [es w hw, eo w hw, if_neg h1, if_neg h2]
    constructor
    · by_cases h3 : st w s = u
      · rw [if_pos h3, h3, LL_nat, LL_nat, Lv]
      · rw [if_neg h3]
        refine LLo _ ?_ h3
        intro h4
        have := (I.ch w v hw (chs.2 (.inl h4))).2
        omega
    · by_cases h3 : st w o = u
      · rw [if_pos h3, h3, LL_nat, LL_nat, Lv]
      · rw [if_neg h3]
        refine LLo _ ?_ h3
        intro h4
        have := (I.ch w v hw (chs.2 (.inr h4))).2
        omega
  have vsu : st v s ≠ u := fun h => nvu (chs.2 (.inl h))
  have vou : st v o ≠ u := fun h => nvu (chs.2 (.inr h))
  have vsv : st v s ≠ v := fun h => nvv (chs.2 (.inl h))
  have vov : st v o ≠ v := fun h => nvv (chs.2 (.inr h))
  have uou : st u o ≠ u := fun h => nuu (chs.2 (.inr h))
  have evs : st' v s = st v s := by rw [es v hv, if_neg ne, if_neg vsu]
  have evo : st' v o = u := by rw [eo v hv, if_pos rfl]
  have eus : st' u s = st v o := by rw [es u hun, if_pos rfl]
  have euo : st' u o = st u o := by rw [eo u hun, if_neg (fun h => ne h.symm), if_neg uou]
  have INO : ∀ w, w < n → L' w = LL L' (st' w 0) ++ w :: LL L' (st' w 1) := by
    intro w hw
    by_cases h1 : w = v
    · subst h1
      rw [Lv, I.ino u hun]
      rcases hs.so with ⟨rfl, rfl⟩ | ⟨rfl, rfl⟩
      · rw [evs, evo, LLo _ vsv vsu, LL_nat, Lu, if_pos rfl, hs.at_, LL_nat, I.ino w hw]
        simp
      · rw [evs, evo, LLo _ vsv vsu, LL_nat, Lu, if_neg (by decide), hs.at_, LL_nat, I.ino w hw]
        simp
    · by_cases h2 : w = u
      · subst h2
        rw [Lu]
        rcases hs.so with ⟨rfl, rfl⟩ | ⟨rfl, rfl⟩
        · rw [if_pos rfl, eus, euo, LLo _ vov vou, LLo _ nuo uou]
        · rw [if_neg (by decide), eus, euo, LLo _ vov vou, LLo _ nuo uou]
      · rw [Lo w h1 h2, I.ino w hw]
        obtain ⟨k1, k2⟩ := LLw w hw h2 h1
        rcases hs.so with ⟨rfl, rfl⟩ | ⟨rfl, rfl⟩
        · rw [k1, k2]
        · rw [k1, k2]
  have TOP : ∀ w, w < n → Top st' w → (w = v ∧ Top st u) ∨ (w ≠ v ∧ w ≠ u ∧ Top st w) := by
    intro w hw ht
    by_cases h1 : w = v
    · subst h1
      refine .inl ⟨rfl, fun g hg hcg => ?_⟩
      have gn : g < n := by
        rcases I.up u hun with h | ⟨x, hx, hxn⟩
        · omega
        · have : g = x := by omega
          subst this; exact hxn
      have g1 : g ≠ u := by rintro rfl; exact nuu hcg
      have g2 : g ≠ w := by rintro rfl; exact nvu hcg
      refine ht g (by rw [e2 w hv, if_neg ne, if_pos rfl]; exact hg) (chs'.2 ?_)
      rcases chs.1 hcg with k | k
      · exact .inl (by rw [es g gn, if_neg g1, if_pos k])
      · exact .inr (by rw [eo g gn, if_neg g2, if_pos k])
    · by_cases h2 : w = u
      · subst h2
        exact absurd (chs'.2 (.inr evo)) (ht v (by rw [e2 w hun, if_pos rfl]))
      · refine .inr ⟨h1, h2, fun x hx hcx => ?_⟩
        have xn : x < n := by
          rcases I.up w hw with h | ⟨y, hy, hyn⟩
          · omega
          · have : x = y := by omega
            subst this; exact hyn
        by_cases h3 : st v o = w
        · exact ht u (by rw [e2 w hw, if_neg h2, if_neg h1, if_pos h3]) (chs'.2 (.inl (by rw [eus]; exact h3)))
        · refine ht x (by rw [e2 w hw, if_neg h2, if_neg h1, if_neg h3]; exact hx) (chs'.2 ?_)
          rcases chs.1 hcx with k | k
          · left
            have x1 : x ≠ u := by rintro rfl; have := hs.at_; omega
            rw [es x xn, if_neg x1, if_neg (by omega)]
            exact k
          · right
            have x1 : x ≠ v := by rintro rfl; exact h3 k
            rw [eo x xn, if_neg x1, if_neg (by omega)]
            exact k
  have chnu : Chn par (L' u) := by
    have hu := I.chn u hun
    rw [I.ino u hun] at hu
    rw [Lu]
    rcases hs.so with ⟨rfl, rfl⟩ | ⟨rfl, rfl⟩
    · rw [if_pos rfl]
      rw [hs.at_, LL_nat, I.ino v hv, List.append_assoc] at hu
      exact (Chn.append.1 hu).2.1.tail
    · rw [if_neg (by decide)]
      rw [hs.at_, LL_nat, I.ino v hv, ← List.cons_append, ← List.append_assoc] at hu
      exact (Chn.append.1 hu).1
  have pdz : ∀ y : Nat, Ch st v y ∨ Ch st u y → st y 4 = mn tv (L y) := by
    intro y hy
    have : y < n ∧ w64 (pd y) = w64 0 := by
      rcases hy with hy | hy
      · exact ⟨(I.ch v y hv hy).1, by rw [I.pdc v y hv hy, pv, av]; rfl⟩
      · exact ⟨(I.ch u y hun hy).1, by rw [I.pdc u y hun hy, pu, au]; rfl⟩
    obtain ⟨yn, h⟩ := this
    rw [I.lst y yn]
    obtain ⟨k, hk⟩ := w64_cg.1 h
    have r := I.mnRng F y yn
    have : w64 (mn tv (L y) - pd y) = w64 (mn tv (L y)) := w64_of ⟨-k, by omega⟩
    rw [this, w64_in r.1 r.2]
  have memU : ∀ a ∈ L' u, a ∈ L u := by
    intro a ha
    rw [Lu] at ha
    rw [I.ino u hun]
    rcases hs.so with ⟨rfl, rfl⟩ | ⟨rfl, rfl⟩
    · rw [if_pos rfl] at ha
      rw [hs.at_, LL_nat, I.ino v hv]
      simp only [List.mem_append, List.mem_cons] at ha ⊢
      rcases ha with h | h | h
      · exact .inl (.inr (.inr h))
      · exact .inr (.inl h)
      · exact .inr (.inr h)
    · rw [if_neg (by decide)] at ha
      rw [hs.at_, LL_nat, I.ino v hv]
      simp only [List.mem_append, List.mem_cons] at ha ⊢
      rcases ha with h | h | h
      · exact .inl h
      · exact .inr (.inl h)
      · exact .inr (.inr (.inl h))
  have rngU : ∀ a ∈ L u, tv a < 9223372036854775808 := fun a ha => (F.rng a (I.lt u hun a ha)).2
  have tvv : ∀ w, w < n → pd w = 0 → st w 3 = tv w := by
    intro w hw h
    rw [I.val w hw, h, Int.sub_zero, w64_in (F.rng w hw).1 (F.rng w hw).2]
  have rl : ∀ w j, j ≠ 4 → rotL st v u w j = st' w j := fun w j hj => (q w j hj).symm
  have lu : least3 (rotL st v u) u = mn tv (L' u) := by
    refine least3_ok ?_ ?_ ?_ (fun a ha => rngU a (memU a ha))
    · rw [rl _ _ (by decide), e3 u hun]; exact tvv u hun pu
    · intro c hcc
      replace hcc : Ch st' u c := by unfold Ch at hcc ⊢; rwa [rl _ _ (by decide), rl _ _ (by decide)] at hcc
      have hcn := CH u c hun hcc
      have hk : Ch st v c ∨ Ch st u c := by
        rcases chs'.1 hcc with h | h
        · exact .inl (chs.2 (.inr (by rw [← eus]; exact h)))
        · exact .inr (chs.2 (.inr (by rw [← euo]; exact h)))
      have c1 : c ≠ v := by
        rintro rfl
        rcases chs'.1 hcc with h | h
        · rw [eus] at h; exact vov h
        · rw [euo] at h; exact nuo h
      rw [e4 c hcn.1, pdz c hk, Lo c c1 hcn.2.2.2]
    · rw [rl _ _ (by decide), rl _ _ (by decide)]
      exact INO u hun
  have lv : least3 (pullS (rotL st v u) u) v = mn tv (L' v) := by
    have pk : ∀ w j, j ≠ 4 → pullS (rotL st v u) u w j = st' w j := by
      intro w j hj
      unfold pullS upd2
      rw [if_neg (by omega), rl w j hj]
    refine least3_ok ?_ ?_ ?_ (fun a ha => rngU a (by rw [Lv] at ha; exact ha))
    · rw [pk _ _ (by decide), e3 v hv]; exact tvv v hv pv
    · intro c hcc
      replace hcc : Ch st' v c := by unfold Ch at hcc ⊢; rwa [pk _ _ (by decide), pk _ _ (by decide)] at hcc
      have hcn := CH v c hv hcc
      by_cases hcu : c = u
      · subst hcu
        unfold pullS upd2
        rw [if_pos ⟨rfl, rfl⟩, lu]
      · have hk : Ch st v c := by
          rcases chs'.1 hcc with h | h
          · exact chs.2 (.inl (by rw [← evs]; exact h))
          · rw [evo] at h; omega
        unfold pullS upd2
        rw [if_neg (fun h => hcu h.1), e4 c hcn.1, pdz c (.inl hk), Lo c hcn.2.2.2 hcu]
    · rw [pk _ _ (by decide), pk _ _ (by decide)]
      exact INO v hv
  have PC : ∀ w k, w < n → k < 2 → Pc n w (rotL st v u w k) := by
    intro w k hw hk
    rw [rl _ _ (by omega)]
    by_cases h0 : 0 ≤ st' w k
    · right
      have hcc : Ch st' w (st' w k).toNat := by
        have : k = 0 ∨ k = 1 := by omega
        rcases this with rfl | rfl
        · exact .inl (by omega)
        · exact .inr (by omega)
      have := CH w _ hw hcc
      exact ⟨(st' w k).toNat, by omega, this.1, this.2.2.2⟩
    · exact .inl (by omega)
  have FR : ∀ w, w < n → w ≠ v → w ≠ u → Top st w → Top st' w ∧ st' w 2 = st w 2 := by
    intro w hw h1 h2 ht
    have h3 : ¬ st v o = w := by
      intro h
      have hcc : Ch st v w := chs.2 (.inr h)
      exact ht v (I.ch v w hv hcc).2 hcc
    have ew : st' w 2 = st w 2 := by rw [e2 w hw, if_neg h2, if_neg h1, if_neg h3]
    refine ⟨fun x hx hcx => ?_, ew⟩
    have xn : x < n := by
      rw [ew] at hx
      rcases I.up w hw with h | ⟨y, hy, hyn⟩
      · omega
      · have : x = y := by omega
        subst this; exact hyn
    rw [ew] at hx
    rcases chs'.1 hcx with k | k
    · rw [es x xn] at k
      by_cases x1 : x = u
      · rw [if_pos x1] at k; exact h3 k
      · rw [if_neg x1] at k
        by_cases x2 : st x s = u
        · rw [if_pos x2] at k; omega
        · rw [if_neg x2] at k; exact ht x hx (chs.2 (.inl k))
    · rw [eo x xn] at k
      by_cases x1 : x = v
      · rw [if_pos x1] at k; omega
      · rw [if_neg x1] at k
        by_cases x2 : st x o = u
        · rw [if_pos x2] at k; omega
        · rw [if_neg x2] at k; exact ht x hx (chs.2 (.inr k))
  refine ⟨⟨fun w y hw h => ⟨(CH w y hw h).1, (CH w y hw h).2.1⟩, ?_, INO, ?_, ?_, ?_, fun w y hw h => (CH w y hw h).2.2.1, ?_, ?_⟩, Lv, Lo, e5, ?_, FR, PC u 0 hun (by decide), PC u 1 hun (by decide), PC v 0 hv (by decide), PC v 1 hv (by decide), ?_, ?_⟩
  · intro w hw
    rw [e2 w hw]
    by_cases h1 : w = u
    · rw [if_pos h1]; exact .inr ⟨v, rfl, hv⟩
    · rw [if_neg h1]
      by_cases h2 : w = v
      · rw [if_pos h2]; exact I.up u hun
      · rw [if_neg h2]
        by_cases h3 : st v o = w
        · rw [if_pos h3]; exact .inr ⟨u, rfl, hun⟩
        · rw [if_neg h3]; exact I.up w hw
  · intro w hw
    by_cases h1 : w = v
    · subst h1; rw [Lv]; exact I.chn u hun
    · by_cases h2 : w = u
      · subst h2; exact chnu
      · rw [Lo w h1 h2]; exact I.chn w hw
  · intro w hw ht
    rcases TOP w hw ht with ⟨rfl, hu⟩ | ⟨h1, h2, hw'⟩
    · rw [Lv, e2 w hv, if_neg ne, if_pos rfl]
      exact I.hd u hun hu
    · rw [Lo w h1 h2, (FR w hw h1 h2 hw').2]
      exact I.hd w hw hw'
  · intro w hw ht
    rcases TOP w hw ht with ⟨rfl, hu⟩ | ⟨h1, h2, hw'⟩
    · exact pv
    · exact I.pdt w hw hw'
  · intro w hw
    rw [e3 w hw]; exact I.val w hw
  · intro w hw
    have f4 : st' w 4 = if w = v then least3 (pullS (rotL st v u) u) v else if w = u then least3 (rotL st v u) u else rotL st v u w 4 := by
      rw [← hst]
      unfold rotateS
      show upd2 (pullS (rotL st v u) u) v 4 _ w 4 = _
      unfold upd2
      by_cases h1 : w = v
      · rw [if_pos ⟨h1, rfl⟩, if_pos h1]
      · rw [if_neg (fun h => h1 h.1), if_neg h1]
        unfold pullS upd2
        by_cases h2 : w = u
        · rw [if_pos ⟨h2, rfl⟩, if_pos h2]
        · rw [if_neg (fun h => h2 h.1), if_neg h2]
    have z : ∀ x, x < n → x = v ∨ x = u → pd x = 0 → mn tv (L' x) = w64 (mn tv (L' x) - pd x) := by
      intro x hx hx2 h0
      have hr : ∀ a ∈ L' x, a < n := by
        intro a ha
        rcases hx2 with rfl | rfl
        · rw [Lv] at ha; exact I.lt u hun a ha
        · exact I.lt x hx a (memU a ha)
      rw [h0, Int.sub_zero, w64_in]
      · exact mn_low _ fun a ha => (F.rng a (hr a ha)).1
      · refine mn_high (a := x) ?_ (F.rng x hx).2
        rw [INO x hx]; simp
    rw [f4]
    by_cases h1 : w = v
    · rw [if_pos h1, lv, h1]; exact z v hv (.inl rfl) pv
    · rw [if_neg h1]
      by_cases h2 : w = u
      · rw [if_pos h2, lu, h2]; exact z u hun (.inr rfl) pu
      · rw [if_neg h2, e4 w hw, Lo w h1 h2]; exact I.lst w hw
  · rw [e2 v hv, if_neg ne, if_pos rfl]
  · rw [hin]
    by_cases h0 : 0 ≤ st v o
    · have hcc : Ch st v (st v o).toNat := chs.2 (.inr (by omega))
      exact .inr ⟨(st v o).toNat, by omega, (I.ch v _ hv hcc).1⟩
    · exact .inl (by omega)
  · intro ht x hx hcx
    rw [e2 v hv, if_neg ne, if_pos rfl] at hx
    have xn : x < n := by
      rcases I.up u hun with h | ⟨y, hy, hyn⟩
      · omega
      · have : x = y := by omega
        subst this; exact hyn
    rcases chs'.1 hcx with k | k
    · rw [es x xn] at k
      by_cases x1 : x = u
      · rw [if_pos x1] at k; exact vov k
      · rw [if_neg x1] at k
        by_cases x2 : st x s = u
        · exact ht x hx (chs.2 (.inl x2))
        · rw [if_neg x2] at k
          have := (I.ch x v xn (chs.2 (.inl k))).2
          omega
    · rw [eo x xn] at k
      by_cases x1 : x = v
      · rw [if_pos x1] at k; omega
      · rw [if_neg x1] at k
        by_cases x2 : st x o = u
        · exact ht x hx (chs.2 (.inr x2))
        · rw [if_neg x2] at k
          have := (I.ch x v xn (chs.2 (.inr k))).2
          have : x = u := by omega
          subst this
          exact nuo k

end
end Go.Proofs.Ytgbmkfifjijoiaa
