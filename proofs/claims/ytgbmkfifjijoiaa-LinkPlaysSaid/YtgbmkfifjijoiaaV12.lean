/- The operations of a region in every order that its edges let by. -/
import Derived.Test.YtgbmkfifjijoiaaV11
namespace Go.Proofs.Ytgbmkfifjijoiaa
open Go
set_option linter.unusedVariables false
set_option linter.unusedSimpArgs false

def wantF (ops : List Oper) (g : Option (Nat × Bool)) (fr : Fr) : Option Bool := match g with
  | none => some true
  | some (j, w) => match ops[j]? with
    | some oj => match oj.dst with
      | some d => match Fr.get fr d with
        | some (.bool b) => some (b == w)
        | some (.tuple _) => some false
        | _ => none
      | none => none
    | none => none

theorem gd_iff {ops : List Oper} {g : Option (Nat × Bool)} {fr : Fr} {A B : Fr → Prop} (hA : ∀ f f', Fr.le f f' → A f → A f') (hB : ∀ f f', Fr.le f f' → B f → B f') :
    gdP ops g fr A B ↔ (wantF ops g fr = some true ∧ A fr) ∨ (wantF ops g fr = some false ∧ B fr) := by
  unfold gdP wantF
  cases g with
  | none => simp
  | some jw =>
    obtain ⟨j, w⟩ := jw
    dsimp only
    cases ops[j]? with
    | none => simp [on]
    | some oj =>
      dsimp only [on]
      cases oj.dst with
      | none => simp
      | some d =>
        dsimp only [on]
        cases hget : Fr.get fr d with
        | none => simp
        | some v =>
          have up := fun b (e : v = .bool b) => le_cons_self (fr := fr) (d := d) (v := .bool b) (by rw [hget, e])
          have dn := fun b (e : v = .bool b) => cons_self_le (fr := fr) (d := d) (v := .bool b) (by rw [hget, e])
          cases v <;> try (simp; done)
          rename_i b
          have up := up b rfl
          have dn := dn b rfl
          cases b <;> cases w <;> simp
          · exact ⟨hA _ _ dn, hA _ _ up⟩
          · exact ⟨hB _ _ dn, hB _ _ up⟩
          · exact ⟨hB _ _ dn, hB _ _ up⟩
          · exact ⟨hA _ _ dn, hA _ _ up⟩

def UpX (X : Value → H → Prop) : Prop := ∀ v h h', Ext h h' → X v h → X v h'
def UpK (K : Fr → H → Prop) : Prop := ∀ f f' h, Fin' h → Fr.le f f' → K f h → K f' h

theorem rpt_step {P : Program} {ops : List Oper} {pd : Nat → List Nat} {X : Value → H → Prop} {ex : List (Nat × Option Value)} {i : Nat} {L : List Nat} {fr : Fr} {h : H} {K : Fr → H → Prop} (hK : UpK K) (hf : Fin' h) :
    rpt P ops pd ex (i :: L) fr h K X ↔ ∃ o, ops[i]? = some o ∧
      ((wantF ops o.guard fr = some true ∧ opt P o fr h (fun v h' => oblP P ops h h' (both (pd i) ex) (rpt P ops pd ((i, ldAddr fr o) :: ex) L (Fr.put fr o.dst v) h' K X)) X) ∨
       (wantF ops o.guard fr = some false ∧ rpt P ops pd ((i, none) :: ex) L (Fr.put fr o.dst undef) h K X)) := by
  simp only [rpt]
  cases ops[i]? with
  | none => simp [on]
  | some o =>
    simp only [on, Option.some.injEq, exists_eq_left']
    refine gd_iff (fun f f' hl ho => ?_) (fun f f' hl ho => ?_)
    · have ha := ldAddr_le hl ho
      refine opt_le hl (opt_mono hf (fun v h' hf' => oblP_weak (fun _ p => p) (fun hr => ?_)) (fun _ _ x => x) ho)
      rw [ha]
      exact rpt_gen L hf' hK (fun _ p => p) (hl.put _ _) hr
    · exact rpt_gen L hf hK (fun _ p => p) (hl.put _ _) ho

theorem has_iff {i : Nat} : ∀ {l : List Nat}, has i l = true ↔ i ∈ l := by
  intro l
  induction l with
  | nil => simp [has]
  | cons j r ih =>
    simp only [has]
    by_cases e : i = j
    · subst e; simp [beq_self]
    · rw [beq_ne e]; simp [e, ih]

theorem mem_tmpsOf {t : Nat} : ∀ {l : List Operand}, t ∈ tmpsOf l ↔ Operand.tmp t ∈ l := by
  intro l
  induction l with
  | nil => simp [tmpsOf]
  | cons x r ih => cases x <;> simp [tmpsOf, ih]

theorem not_dstIn {d : Option Nat} {l : List Nat} (h : dstIn d l = false) : ∀ t ∈ l, d ≠ some t := by
  intro t ht e
  subst e
  have : has t l = true := has_iff.2 ht
  rw [show dstIn (some t) l = has t l from rfl] at h
  rw [h] at this; cases this

theorem get_put_ne {fr : Fr} {d : Option Nat} {v : Value} {t : Nat} (h : d ≠ some t) : Fr.get (Fr.put fr d v) t = Fr.get fr t := by
  cases d with
  | none => rfl
  | some d => exact get_cons_ne (fun e => h (by rw [e])) v fr

theorem agr {ops : List Oper} {o : Oper} {d : Option Nat} (h : dstIn d (looks ops o) = false) (fr : Fr) (v : Value) :
    ∀ x ∈ o.op.operands.toList, evalO (Fr.put fr d v) x = evalO fr x := by
  intro x hx
  cases x with
  | tmp t => exact get_put_ne (not_dstIn h t (by unfold looks; exact List.mem_append_left _ (mem_tmpsOf.2 hx)))
  | const u => rfl
  | global g => rfl
  | func f => rfl

theorem want_put {ops : List Oper} {o : Oper} {d : Option Nat} (h : dstIn d (looks ops o) = false) (fr : Fr) (v : Value) :
    wantF ops o.guard (Fr.put fr d v) = wantF ops o.guard fr := by
  unfold wantF
  cases hg : o.guard with
  | none => rfl
  | some jw =>
    obtain ⟨j, w⟩ := jw
    dsimp only
    cases hj : ops[j]? with
    | none => rfl
    | some oj =>
      dsimp only
      cases hd : oj.dst with
      | none => rfl
      | some e =>
        dsimp only
        rw [get_put_ne (not_dstIn h e (by unfold looks; rw [hg]; simp [hj, hd]))]

theorem hput_comm {h : H} {b c : Nat} (hne : b ≠ c) (o p : Obj) : hput (hput h b o) c p = hput (hput h c p) b o := by
  funext k
  unfold hput
  by_cases e1 : k = c
  · subst e1; rw [if_pos rfl, if_neg (fun e => hne e.symm), if_pos rfl]
  · rw [if_neg e1]
    by_cases e2 : k = b
    · rw [if_pos e2, if_pos e2]
    · rw [if_neg e2, if_neg e2, if_neg e1]

theorem hput_hset {h : H} {b : Nat} (o : Obj) {a : Addr} {vs : List Value} (hne : b ≠ a.block) : hset (hput h b o) a vs = hput (hset h a vs) b o := by
  funext k
  simp only [hset, hput]
  by_cases e1 : k = a.block
  · have e2 : k ≠ b := fun e => hne (e.symm.trans e1)
    simp only [e1, if_true]
    rw [if_neg (fun e => hne e.symm), if_neg (fun e => hne e.symm)]
  · simp only [e1, if_false]

theorem hwr_put {h : H} {b : Nat} (hb : h b = none) (o : Obj) {a : Addr} {n : Nat} (hw : hwr h a n) : b ≠ a.block ∧ hwr (hput h b o) a n := by
  obtain ⟨c, e, h1, h2, h3⟩ := hw
  have hne : b ≠ a.block := fun e => by rw [← e, hb] at h1; cases h1
  exact ⟨hne, c, e, by unfold hput; rw [if_neg (fun e => hne e.symm)]; exact h1, h2, h3⟩

theorem hcell_hput {h h1 : H} {b : Nat} (o : Obj) {a : Addr} (he : hcell h1 a = hcell h a) : hcell (hput h1 b o) a = hcell (hput h b o) a := by
  unfold hcell hput
  by_cases e : a.block = b
  · rw [if_pos e, if_pos e]
  · rw [if_neg e, if_neg e]; exact he

theorem hset_none {h : H} {b : Nat} (hb : h b = none) (a : Addr) (vs : List Value) : hset h a vs b = none := by
  unfold hset
  split
  · rw [hb]; rfl
  · exact hb

/-- What acts over a heap with one block more acts as over the heap. -/
theorem opt_frame {P : Program} {o : Oper} (hc : clsOf P o = 3 ∨ clsOf P o = 4) {fr : Fr} {h : H} {K X : Value → H → Prop} (ho : opt P o fr h K X) {b : Nat} (hb : h b = none) (ob : Obj) :
    opt P o fr (hput h b ob) (fun v h2 => ∃ h1, h1 b = none ∧ h2 = hput h1 b ob ∧ K v h1) (fun v h2 => ∃ h1, h1 b = none ∧ h2 = hput h1 b ob ∧ X v h1) := by
  unfold clsOf at hc
  have ret : ∀ r h2, (∃ h1, h1 b = none ∧ h2 = hput h1 b ob ∧ onRet P o.type K X r h1) →
      onRet P o.type (fun v h2 => ∃ h1, h1 b = none ∧ h2 = hput h1 b ob ∧ K v h1) (fun v h2 => ∃ h1, h1 b = none ∧ h2 = hput h1 b ob ∧ X v h1) r h2 := by
    rintro r h2 ⟨h1, n1, e1, hr⟩
    cases r with
    | ret v =>
      show tyV P o.type v (fun v => ∃ h1, h1 b = none ∧ h2 = hput h1 b ob ∧ K v h1)
      exact tyV_mono (fun v hk => ⟨h1, n1, e1, hk⟩) (show tyV P o.type v (fun v => K v h1) from hr)
    | pan v => exact ⟨h1, n1, e1, hr⟩
  cases hop : o.op <;> rw [hop] at hc <;> (try simp only at hc) <;> try (exfalso; omega)
  all_goals (unfold opt at ho ⊢; rw [hop] at ho ⊢)
  all_goals try exact ho.elim
  all_goals dsimp only at ho ⊢
  case store t a v =>
    obtain ⟨va, hva, ho⟩ := on_spec ho
    obtain ⟨vv, hvv, ho⟩ := on_spec ho
    rw [hva, hvv]
    simp only [on]
    unfold storeP at ho ⊢
    obtain ⟨p, rfl, ho2⟩ := ptrP_spec ho
    revert ho2
    have agg : (aggP vv fun vs => stN h p vs (P.cellsOf t) fun h' => K undef h') → (aggP vv fun vs => stN (hput h b ob) p vs (P.cellsOf t) fun h2 => ∃ h1, h1 b = none ∧ h2 = hput h1 b ob ∧ K undef h1) := by
      intro hh
      obtain ⟨cs, rfl, h1, h2, h3, h4⟩ := aggP_spec hh
      obtain ⟨hne, hw⟩ := hwr_put hb ob h3
      exact ⟨h1, h2, hw, _, hset_none hb p cs, hput_hset ob hne, h4⟩
    have one : (bif Nat.beq (P.cellsOf t) 1 then oneP vv (stC h p vv fun h' => K undef h') else False) → (bif Nat.beq (P.cellsOf t) 1 then oneP vv (stC (hput h b ob) p vv fun h2 => ∃ h1, h1 b = none ∧ h2 = hput h1 b ob ∧ K undef h1) else False) := by
      cases Nat.beq (P.cellsOf t) 1 with
      | false => exact id
      | true =>
        simp only [cond_true]
        intro hh
        cases vv <;> first
          | exact hh.elim
          | exact ⟨(hwr_put hb ob hh.1).2, _, hset_none hb p _, hput_hset ob (hwr_put hb ob hh.1).1, hh.2⟩
    rcases P.underlying t with _ | d
    · exact id
    · cases d <;> first
        | exact agg
        | exact one
  case call c =>
    obtain ⟨args, hargs, ho⟩ := on_spec ho
    rw [hargs]
    simp only [on]
    cases hcal : c.callee <;> rw [hcal] at ho hc <;> dsimp only at ho hc ⊢
    case builtin bi =>
      have hsc : ∀ {a : Option Addr} {n : Nat} {new : List Value}, srcP h a n new → srcP (hput h b ob) a n new := by
        intro a n new hs
        refine ⟨hs.1, ?_⟩
        cases a with
        | none => exact hs.2
        | some p => exact fun i v hv => (Ext.put hb ob).cell (hs.2 i v hv)
      cases bi <;> (try simp only at hc) <;> try (exfalso; omega)
      all_goals (unfold builtinP at ho ⊢; split at ho <;> try (first | exact ho.elim | contradiction))
      rename_i ts tx s x hbb ht
      unfold appendP at ho ⊢
      revert ho
      rcases P.underlying ts with _ | d1
      · exact id
      · cases d1 <;> try exact id
        rename_i e
        rcases P.underlying tx with _ | d2
        · exact id
        · cases d2 <;> try exact id
          dsimp only
          intro ho
          obtain ⟨z, hz, ho⟩ := on_spec ho
          rw [hz]
          simp only [on]
          revert ho
          cases (Nat.beq z.length (P.cellsOf e) && !Nat.beq (P.bytesOf e) 0 && !Nat.beq (P.cellsOf e) 0) with
          | false => exact id
          | true =>
            simp only [cond_true]
            intro ho
            obtain ⟨base, sl, sc, rfl, ho2⟩ := slcP_spec ho
            obtain ⟨xa, n, xc, rfl, new, h1, h2, h3⟩ := slcP_spec ho2
            refine ⟨new, hsc h1, fun hr => ?_, fun hr => ?_⟩
            · have := h2 hr
              cases base with
              | none => exact ⟨this.1, h, hb, rfl, this.2⟩
              | some a =>
                by_cases hnew : new = []
                · subst hnew
                  refine ⟨fun hh => absurd rfl hh, this.2.1, hset h (a.add (sl * P.cellsOf e)) [], hset_none hb _ _, ?_, this.2.2⟩
                  have hid : ∀ (g : H) (a : Addr), hset g a [] = g := by
                    intro g a
                    funext k
                    unfold hset
                    split
                    · cases g k with
                      | none => rfl
                      | some o => cases o <;> rfl
                    · rfl
                  rw [hid, hid]
                · obtain ⟨hne, hw⟩ := hwr_put hb ob (this.1 hnew)
                  exact ⟨fun _ => hw, this.2.1, _, hset_none hb _ _, hput_hset ob hne, this.2.2⟩
            · obtain ⟨h4, old, h5, h6⟩ := h3 hr
              refine ⟨h4, old, hsc h5, fun cap hc b2 hb2 => ?_⟩
              have hne : b2 ≠ b := fun e => by rw [e] at hb2; simp [hput] at hb2
              have hb2' : h b2 = none := by unfold hput at hb2; rw [if_neg hne] at hb2; exact hb2
              exact ⟨_, by unfold hput; rw [if_neg (fun e => hne e.symm)]; exact hb, hput_comm (fun e => hne e.symm) _ _, h6 cap hc b2 hb2'⟩
    case value f =>
      obtain ⟨vf, hvf, ho⟩ := on_spec ho
      rw [hvf]
      obtain ⟨fid, first, cap, rfl, ht⟩ := funP_spec ho
      exact (ht.frame hb ob).mono fun r h2 ⟨h1, n1, e1, hr⟩ => ret r h2 ⟨h1, n1, e1, hr⟩
    case invoke r name =>
      obtain ⟨vf, hvf, ho⟩ := on_spec ho
      rw [hvf]
      obtain ⟨t, u, rfl, f, rv, hm, ht⟩ := methP_spec ho
      refine ⟨f, rv, fun w hw => hm w ((Ext.put hb ob).sub hw), (ht.frame hb ob).mono fun r h2 ⟨h1, n1, e1, hr⟩ => ret r h2 ⟨h1, n1, e1, hr⟩⟩
  case panic x =>
    obtain ⟨v, hv, ho⟩ := on_spec ho
    rw [hv]
    obtain ⟨t, u, rfl, ho2⟩ := panP_spec ho
    exact ⟨h, hb, rfl, ho2⟩
  all_goals (exfalso; first | (split at hc <;> omega) | ((repeat' split at hc) <;> omega))

theorem opt_store_some {P : Program} {o : Oper} (hc : clsOf P o = 3) {fr : Fr} {h : H} (hf : Fin' h) {K X : Value → H → Prop} (ho : opt P o fr h K X) : ∃ v h1, Fin' h1 ∧ K v h1 := by
  unfold clsOf at hc
  cases hop : o.op <;> rw [hop] at hc <;> (try simp only at hc) <;> try (exfalso; omega)
  case store t a v =>
    unfold opt at ho
    rw [hop] at ho
    obtain ⟨va, hva, ho⟩ := on_spec ho
    obtain ⟨vv, hvv, ho⟩ := on_spec ho
    unfold storeP at ho
    obtain ⟨p, rfl, ho2⟩ := ptrP_spec ho
    revert ho2
    have agg : (aggP vv fun vs => stN h p vs (P.cellsOf t) fun h' => K undef h') → ∃ v h1, Fin' h1 ∧ K v h1 := by
      intro hh
      obtain ⟨cs, rfl, h1, h2, h3, h4⟩ := aggP_spec hh
      exact ⟨_, _, hf.set _ _, h4⟩
    have one : (bif Nat.beq (P.cellsOf t) 1 then oneP vv (stC h p vv fun h' => K undef h') else False) → ∃ v h1, Fin' h1 ∧ K v h1 := by
      cases Nat.beq (P.cellsOf t) 1 with
      | false => exact fun h => h.elim
      | true =>
        simp only [cond_true]
        intro hh
        obtain ⟨_, _, hk⟩ := oneP_spec hh
        exact ⟨_, _, hf.set _ _, hk⟩
    rcases P.underlying t with _ | d
    · exact fun h => h.elim
    · cases d <;> first
        | exact agg
        | exact one
  all_goals (exfalso; first | (split at hc <;> omega) | ((repeat' split at hc) <;> omega))

theorem rdSame_self {P : Program} {o : Oper} (hc : clsOf P o = 1) {fr : Fr} {h : H} {K X : Value → H → Prop} (ho : opt P o fr h K X) : rdSame P o (ldAddr fr o) h h := by
  unfold rdSame ldAddr
  unfold opt at ho
  cases hop : o.op <;> try trivial
  rw [hop] at ho
  obtain ⟨v, hv, ho⟩ := on_spec ho
  unfold loadP at ho
  obtain ⟨a, rfl, _⟩ := ptrP_spec ho
  simp only [hv]
  first | exact fun i _ => rfl | exact fun i _ => trivial | trivial

set_option maxHeartbeats 2000000 in
theorem swap {P : Program} {ops : List Oper} {pd : Nat → List Nat} {X : Value → H → Prop} {ex : List (Nat × Option Value)} {l x : Nat} {M : List Nat} {fr : Fr} {h : H} {K : Fr → H → Prop} (hK : UpK K) (hUX : UpX X) (hf : Fin' h)
    (hok : okPair P ops pd l x = true) (hr : rpt P ops pd ex (l :: x :: M) fr h K X) : rpt P ops pd ex (x :: l :: M) fr h K X := by
  rw [rpt_step hK hf] at hr ⊢
  obtain ⟨ol, hl, hr⟩ := hr
  unfold okPair at hok
  rw [hl] at hok
  cases hx : ops[x]? with
  | none => rw [hx] at hok; cases hok
  | some ox =>
  rw [hx] at hok
  simp only [Bool.and_eq_true] at hok
  obtain ⟨⟨⟨hap, hpd⟩, hpx⟩, hcl⟩ := hok
  have hpd : pd l = [] ∨ clsOf P ol = 3 ∨ clsOf P ol = 4 := by
    simp only [Bool.or_eq_true] at hpd
    rcases hpd with (h | h) | h
    · exact .inl (by simpa using h)
    · exact .inr (.inl (Nat.eq_of_beq_eq_true h))
    · exact .inr (.inr (Nat.eq_of_beq_eq_true h))
  have hpx : pd x = [] ∨ clsOf P ox = 3 ∨ clsOf P ox = 4 := by
    simp only [Bool.or_eq_true] at hpx
    rcases hpx with (h | h) | h
    · exact .inl (by simpa using h)
    · exact .inr (.inl (Nat.eq_of_beq_eq_true h))
    · exact .inr (.inr (Nat.eq_of_beq_eq_true h))
  unfold apartB at hap
  simp only [Bool.and_eq_true, Bool.not_eq_true'] at hap
  obtain ⟨⟨hlx, hxl⟩, hne⟩ := hap
  have hne' : ∀ a b, ol.dst = some a → ox.dst = some b → a ≠ b := by
    intro a b ha hb e
    rw [ha, hb] at hne
    subst e
    simp [beq_self] at hne
  -- 'x' behind 'l'
  have atX : ∀ v al h1, Fin' h1 → rpt P ops pd ((l, al) :: ex) (x :: M) (Fr.put fr ol.dst v) h1 K X →
      (wantF ops ox.guard fr = some true ∧ opt P ox fr h1 (fun u h2 => oblP P ops h1 h2 (both (pd x) ((l, al) :: ex)) (rpt P ops pd ((x, ldAddr fr ox) :: (l, al) :: ex) M (Fr.put (Fr.put fr ol.dst v) ox.dst u) h2 K X)) X) ∨
      (wantF ops ox.guard fr = some false ∧ rpt P ops pd ((x, none) :: (l, al) :: ex) M (Fr.put (Fr.put fr ol.dst v) ox.dst undef) h1 K X) := by
    intro v al h1 hf1 hh
    rw [rpt_step hK hf1] at hh
    obtain ⟨ox', hox, hh⟩ := hh
    rw [hx] at hox; cases hox
    rw [want_put hlx] at hh
    refine hh.imp (fun a => ⟨a.1, ?_⟩) id
    have a2 := a.2
    rw [opt_fr (agr hlx fr v), ldAddr_fr (agr hlx fr v)] at a2
    exact a2
  -- 'l' behind 'x'
  have behind : ∀ u ax h2 v al', Fin' h2 → rpt P ops pd ((x, ax) :: (l, al') :: ex) M (Fr.put (Fr.put fr ol.dst v) ox.dst u) h2 K X →
      rpt P ops pd ((l, al') :: (x, ax) :: ex) M (Fr.put (Fr.put fr ox.dst u) ol.dst v) h2 K X := by
    intro u ax h2 v al' hf2 hh
    refine rpt_gen M hf2 hK (fun p hp => ?_) (put_swap hne' v u) hh
    simp only [List.mem_cons] at hp ⊢
    rcases hp with h | h | h
    · exact .inr (.inl h)
    · exact .inl h
    · exact .inr (.inr h)
  have lastW : pd l = [] → ∀ u ax h2, Fin' h2 → wantF ops ol.guard fr = some true → opt P ol fr h2 (fun v h3 => rpt P ops pd ((x, ax) :: (l, ldAddr fr ol) :: ex) M (Fr.put (Fr.put fr ol.dst v) ox.dst u) h3 K X) X →
      rpt P ops pd ((x, ax) :: ex) (l :: M) (Fr.put fr ox.dst u) h2 K X := by
    intro hpd u ax h2 hf2 hw ho
    rw [rpt_step hK hf2]
    refine ⟨ol, hl, .inl ⟨by rw [want_put hxl]; exact hw, ?_⟩⟩
    rw [opt_fr (agr hxl fr u), ldAddr_fr (agr hxl fr u)]
    refine opt_mono hf2 (fun v h3 hf3 hh => ?_) (fun _ _ x => x) ho
    rw [hpd, oblP_iff]
    exact ⟨fun p hp => by rw [mem_both] at hp; simp [has] at hp, behind u ax h3 v _ hf3 hh⟩
  refine ⟨ox, rfl, ?_⟩
  rcases hr with ⟨hwl, hol⟩ | ⟨hwl, hr⟩
  · -- 'l' runs
    by_cases c34 : clsOf P ol = 3 ∨ clsOf P ol = 4
    · -- what acts, ahead of a plain new variable
      have hcx : clsOf P ox = 2 := by
        rcases c34 with c34 | c34 <;> rw [c34] at hcl <;> split at hcl <;> first
          | (exfalso; omega)
          | assumption
          | (exact absurd hcl (by simp))
      have hgx : ox.guard = none := by
        rcases c34 with c34 | c34 <;> rw [c34, hcx] at hcl <;> simp only at hcl
        · simpa using hcl
        · unfold allocB at hcl
          split at hcl
          · simp only [Bool.and_eq_true] at hcl; simpa using hcl.2
          · cases hcl
      have hww : wantF ops ox.guard fr = some true := by rw [hgx]; rfl
      obtain ⟨W2, obj2, vf2, hW2⟩ := opt_new hcx fr
      have hw2 : W2 := by
        rcases c34 with c3 | c4
        · obtain ⟨v, h1, hf1, hk⟩ := opt_store_some c3 hf hol
          rcases atX v _ h1 hf1 (oblP_iff.1 hk).2 with ⟨_, ho⟩ | ⟨hw, _⟩
          · exact ((hW2 _ _ _).1 ho).1
          · rw [hww] at hw; cases hw
        · rw [c4, hcx] at hcl
          simp only at hcl
          unfold allocB at hcl
          split at hcl
          · rename_i et hopx
            simp only [Bool.and_eq_true] at hcl
            obtain ⟨z, hz⟩ := Option.isSome_iff_exists.1 hcl.1
            refine ((hW2 h (fun _ _ => True) X).1 ?_).1
            unfold opt
            rw [hopx]
            dsimp only
            unfold allocP
            rw [hz]
            exact fun _ _ => trivial
          · cases hcl
      have hpx0 : pd x = [] := hpx.resolve_right (by omega)
      refine .inl ⟨hww, (hW2 _ _ _).2 ⟨hw2, fun b hb => ?_⟩⟩
      refine oblP_iff.2 ⟨fun p hp => (by have := (mem_both.1 hp).2; rw [hpx0] at this; cases this), ?_⟩
      rw [rpt_step hK (hf.put _ _)]
      refine ⟨ol, hl, .inl ⟨by rw [want_put hxl]; exact hwl, ?_⟩⟩
      rw [opt_fr (agr hxl fr _), ldAddr_fr (agr hxl fr _)]
      refine opt_mono (hf.put _ _) (fun v h2 hf2 hh => ?_) (fun v h2 ⟨h1, n1, e1, hx1⟩ => by rw [e1]; exact hUX _ _ _ (Ext.put n1 _) hx1) (opt_frame c34 hol hb _)
      obtain ⟨h1, n1, e1, hk⟩ := hh
      subst e1
      obtain ⟨hob, hr⟩ := oblP_iff.1 hk
      have hf1 : Fin' h1 := by
        obtain ⟨N, hN⟩ := hf2
        exact ⟨max N (b + 1), fun k hk => by have := hN k (by omega); unfold hput at this; rw [if_neg (by omega)] at this; exact this⟩
      refine oblP_iff.2 ⟨fun p hp => ?_, ?_⟩
      · obtain ⟨hp1, hp2⟩ := mem_both.1 hp
        simp only [List.mem_cons] at hp1
        rcases hp1 with rfl | hp1
        · -- the new variable is no load
          dsimp only
          rw [hx]
          show rdSame P ox (ldAddr fr ox) _ _
          unfold clsOf at hcx
          unfold rdSame
          cases hopx : ox.op <;> try trivial
          rw [hopx] at hcx
          simp at hcx
        · have := hob p (mem_both.2 ⟨hp1, hp2⟩)
          revert this
          cases ops[p.1]? with
          | none => exact id
          | some o =>
            intro this
            revert this
            show rdSame P o p.2 h h1 → rdSame P o p.2 (hput h b _) (hput h1 b _)
            unfold rdSame
            cases o.op <;> try exact id
            cases p.2 with
            | none => exact id
            | some va =>
              dsimp only
              intro hh
              obtain ⟨a, rfl, hh⟩ := ptrP_spec hh
              intro i hi
              exact hcell_hput _ (hh i hi)
      · rcases atX v _ h1 hf1 hr with ⟨_, ho⟩ | ⟨hw2, _⟩
        · have := ((hW2 _ _ _).1 ho).2 b n1
          exact behind _ _ _ v _ hf2 (oblP_iff.1 this).2
        · rw [hww] at hw2; cases hw2
    have hpd : pd l = [] := hpd.resolve_right c34
    have lastW := lastW hpd
    have hol : opt P ol fr h (fun v h1 => rpt P ops pd ((l, ldAddr fr ol) :: ex) (x :: M) (Fr.put fr ol.dst v) h1 K X) X :=
      opt_mono hf (fun v h1 _ hh => (oblP_iff.1 hh).2) (fun _ _ x => x) hol
    -- what 'l' yields is had again where its place reads the same
    have fin : ∀ v, (wantF ops ox.guard fr = some true ∧ opt P ox fr h (fun u h2 => (∀ K', K' v h2 → opt P ol fr h2 K' X) ∧
          oblP P ops h h2 (both (pd x) ((l, ldAddr fr ol) :: ex)) (rpt P ops pd ((x, ldAddr fr ox) :: (l, ldAddr fr ol) :: ex) M (Fr.put (Fr.put fr ol.dst v) ox.dst u) h2 K X)) X) ∨
        (wantF ops ox.guard fr = some false ∧ (∀ K', K' v h → opt P ol fr h K' X) ∧ rpt P ops pd ((x, none) :: (l, ldAddr fr ol) :: ex) M (Fr.put (Fr.put fr ol.dst v) ox.dst undef) h K X) →
        (wantF ops ox.guard fr = some true ∧ opt P ox fr h (fun v h' => oblP P ops h h' (both (pd x) ex) (rpt P ops pd ((x, ldAddr fr ox) :: ex) (l :: M) (Fr.put fr ox.dst v) h' K X)) X) ∨
        (wantF ops ox.guard fr = some false ∧ rpt P ops pd ((x, none) :: ex) (l :: M) (Fr.put fr ox.dst undef) h K X) := by
      intro v hh
      rcases hh with ⟨hw, ho⟩ | ⟨hw, hre, hr⟩
      · refine .inl ⟨hw, opt_mono hf (fun u h2 hf2 hh => ?_) (fun _ _ x => x) ho⟩
        exact oblP_weak (fun p hp => List.mem_cons_of_mem _ hp) (fun hr => lastW u _ h2 hf2 hwl (hh.1 (fun v h3 => rpt P ops pd ((x, ldAddr fr ox) :: (l, ldAddr fr ol) :: ex) M (Fr.put (Fr.put fr ol.dst v) ox.dst u) h3 K X) hr)) hh.2
      · exact .inr ⟨hw, lastW undef _ h hf hwl (hre (fun v h3 => rpt P ops pd ((x, none) :: (l, ldAddr fr ol) :: ex) M (Fr.put (Fr.put fr ol.dst v) ox.dst undef) h3 K X) hr)⟩
    -- by kinds
    by_cases c0 : clsOf P ol = 0
    · obtain ⟨v, hv, hre⟩ := opt_lin0 c0 hol
      refine fin v ?_
      rcases atX v _ h hf hv with ⟨hw, ho⟩ | ⟨hw, hr⟩
      · exact .inl ⟨hw, opt_mono hf (fun u h2 _ hh => ⟨fun K' hk => hre h2 K' X hk, hh⟩) (fun _ _ x => x) ho⟩
      · exact .inr ⟨hw, fun K' hk => hre h K' X hk, hr⟩
    by_cases c2 : clsOf P ol = 2
    · have hcx : clsOf P ox = 2 ∧ ox.guard = none := by
        rw [c2] at hcl
        split at hcl <;> first | (exfalso; omega) | skip
        all_goals first
          | (exact ⟨by assumption, by simpa using hcl⟩)
          | (exact absurd hcl (by simp))
      have hww : wantF ops ox.guard fr = some true := by rw [hcx.2]; rfl
      obtain ⟨W, obj, vf, hW⟩ := opt_new c2 fr
      obtain ⟨W2, obj2, vf2, hW2⟩ := opt_new hcx.1 fr
      rw [hW] at hol
      have hin : ∀ b, h b = none → opt P ox fr (hput h b obj) (fun u h2 => rpt P ops pd ((x, ldAddr fr ox) :: (l, ldAddr fr ol) :: ex) M (Fr.put (Fr.put fr ol.dst (vf b)) ox.dst u) h2 K X) X := by
        intro b hb
        rcases atX (vf b) _ _ (hf.put _ _) (hol.2 b hb) with ⟨hw, ho⟩ | ⟨hw, hr⟩
        · exact opt_mono (hf.put _ _) (fun v h1 _ hh => (oblP_iff.1 hh).2) (fun _ _ x => x) ho
        · rw [hww] at hw; cases hw
      obtain ⟨b0, hb0⟩ := hf.fresh
      have hw2 : W2 := ((hW2 _ _ _).1 (hin b0 hb0)).1
      refine .inl ⟨hww, (hW2 _ _ _).2 ⟨hw2, fun b2 hb2 => ?_⟩⟩
      have hpx0 : pd x = [] := hpx.resolve_right (by omega)
      refine oblP_iff.2 ⟨fun p hp => ?_, lastW _ _ _ (hf.put _ _) hwl ((hW _ _ _).2 ⟨hol.1, fun b hb => ?_⟩)⟩
      · have := (mem_both.1 hp).2
        rw [hpx0] at this
        cases this
      · unfold hput at hb
        split at hb
        · cases hb
        · rename_i hne2
          have := ((hW2 _ _ _).1 (hin b hb)).2 b2 (by unfold hput; rw [if_neg (fun e => hne2 e.symm)]; exact hb2)
          have hcomm : hput (hput h b obj) b2 obj2 = hput (hput h b2 obj2) b obj := hput_comm hne2 _ _
          rw [hcomm] at this
          exact this
    have c15 : clsOf P ol = 1 ∨ clsOf P ol = 5 := by
      split at hcl <;> first
        | (exfalso; omega)
        | (left; assumption)
        | (right; assumption)
        | (exact absurd hcl (by simp))
    obtain ⟨v, hv, hre⟩ := opt_linE (.inr c15) hol
    by_cases cx : isRead P ox
    · refine fin v ?_
      rcases atX v _ h hf hv with ⟨hw, ho⟩ | ⟨hw, hr⟩
      · obtain ⟨u, hu, hrx⟩ := opt_linE cx ho
        exact .inl ⟨hw, hrx h _ X (Ext.refl h) ⟨fun K' hk => hre h K' X (Ext.refl h) hk, hu⟩⟩
      · exact .inr ⟨hw, fun K' hk => hre h K' X (Ext.refl h) hk, hr⟩
    by_cases cx2 : clsOf P ox = 2
    · refine fin v ?_
      rcases atX v _ h hf hv with ⟨hw, ho⟩ | ⟨hw, hr⟩
      · obtain ⟨W2, obj2, vf2, hW2⟩ := opt_new cx2 fr
        rw [hW2] at ho
        exact .inl ⟨hw, (hW2 _ _ _).2 ⟨ho.1, fun b hb => ⟨fun K' hk => hre _ K' X (Ext.put hb obj2) hk, ho.2 b hb⟩⟩⟩
      · exact .inr ⟨hw, fun K' hk => hre h K' X (Ext.refl h) hk, hr⟩
    -- a load ahead of what acts
    have hcc : clsOf P ol = 1 ∧ has l (pd x) = true := by
      unfold isRead at cx
      split at hcl <;> first
        | (exfalso; omega)
        | (simp only [Bool.and_eq_true] at hcl; exact ⟨by assumption, hcl.1⟩)
        | (exact absurd hcl (by simp))
    obtain ⟨v, hv, hreL⟩ := opt_linL hcc.1 hol
    have hself := rdSame_self hcc.1 hol
    refine fin v ?_
    rcases atX v _ h hf hv with ⟨hw, ho⟩ | ⟨hw, hr⟩
    · refine .inl ⟨hw, opt_mono hf (fun u h2 _ hh => ⟨fun K' hk => ?_, hh⟩) (fun _ _ x => x) ho⟩
      have := (oblP_iff.1 hh).1 (l, ldAddr fr ol) (mem_both.2 ⟨List.mem_cons_self, hcc.2⟩)
      dsimp only at this
      rw [hl] at this
      exact hreL h2 K' X this hk
    · exact .inr ⟨hw, fun K' hk => hreL h K' X hself hk, hr⟩
  · -- 'l' does not run
    rcases atX undef none h hf hr with ⟨hw, ho⟩ | ⟨hw, hr⟩
    · refine .inl ⟨hw, opt_mono hf (fun u h2 hf2 hh => ?_) (fun _ _ x => x) ho⟩
      refine oblP_weak (fun p hp => List.mem_cons_of_mem _ hp) (fun hr => ?_) hh
      rw [rpt_step hK hf2]
      exact ⟨ol, hl, .inr ⟨by rw [want_put hxl]; exact hwl, behind u _ h2 undef _ hf2 hr⟩⟩
    · refine .inr ⟨hw, ?_⟩
      rw [rpt_step hK hf]
      exact ⟨ol, hl, .inr ⟨by rw [want_put hxl]; exact hwl, behind undef _ h undef _ hf hr⟩⟩

end Go.Proofs.Ytgbmkfifjijoiaa
