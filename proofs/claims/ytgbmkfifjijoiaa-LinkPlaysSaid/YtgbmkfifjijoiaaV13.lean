/- A region comes to what 'rpt' says of it, in whatever order. -/
import Derived.Test.YtgbmkfifjijoiaaV12
namespace Go.Proofs.Ytgbmkfifjijoiaa
open Go
set_option linter.unusedVariables false
set_option linter.unusedSimpArgs false

theorem FrOK.le {fr fr' : Fr} {a : Act} (hf : FrOK fr a) (hl : Fr.le fr' fr) : FrOK fr' a := fun t v h => hf t v (hl t v h)

theorem FrOK.put {fr : Fr} {a : Act} (hf : FrOK fr a) {d : Option Nat} (hd : ∀ t, d = some t → t < a.tmps.size) (v : Value) : FrOK (Fr.put fr d v) (a.put d v) := by
  cases d with
  | none => exact hf
  | some d =>
    intro t u hu
    have hlt := hd d rfl
    simp only [Fr.put] at hu
    simp only [Act.put]
    by_cases e : d = t
    · subst e
      rw [get_cons_self] at hu
      cases hu
      simp [hlt]
    · rw [get_cons_ne e] at hu
      rw [Array.getElem?_setIfInBounds_ne e]
      exact hf t u hu

theorem size_put (a : Act) (d : Option Nat) (v : Value) : (a.put d v).tmps.size = a.tmps.size := by cases d <;> simp [Act.put]
theorem defers_put (a : Act) (d : Option Nat) (v : Value) : (a.put d v).defers = a.defers := by cases d <;> rfl

theorem want_spec {ops : Array Oper} {o : Oper} {fr : Fr} {a : Act} (hf : FrOK fr a) {b : Bool} (h : wantF ops.toList o.guard fr = some b) :
    Region.wanted o (yielded ops a.tmps) = b := by
  unfold wantF at h
  unfold Region.wanted
  cases hg : o.guard with
  | none => rw [hg] at h; simp at h; simp [h]
  | some jw =>
    obtain ⟨j, w⟩ := jw
    rw [hg] at h
    dsimp only at h ⊢
    cases hj : ops.toList[j]? with
    | none => rw [hj] at h; cases h
    | some oj =>
      have hj' : ops[j]? = some oj := by rw [← hj, Array.getElem?_toList]
      rw [hj] at h
      dsimp only at h
      cases hd : oj.dst with
      | none => rw [hd] at h; cases h
      | some d =>
        rw [hd] at h
        dsimp only at h
        have hy : yielded ops a.tmps j = match a.tmps[d]? with | some (.bool b) => some b | _ => none := by
          simp only [yielded, hj', Option.bind_some, hd]
          rfl
        cases hget : Fr.get fr d with
        | none => rw [hget] at h; cases h
        | some v =>
          rw [hget] at h
          rw [hy, hf d v hget]
          cases v <;> simp only at h <;> try (cases h; done)
          · simp only [Option.some.injEq] at h
            rw [← h]
            rename_i c
            cases c <;> cases w <;> rfl
          · simp only [Option.some.injEq] at h
            rw [← h]; rfl

structure Rel (n : Nat) (ds : List Deferred) (h0 : H) (w0 : World) (W : List Nat) (a0 : Act) (fr : Fr) (h : H) (a : Act) (w : World) : Prop where
  fr : FrOK fr a
  sub : Sub h w
  same : Stp h0 w0 h w
  size : a.tmps.size = n
  defers : a.defers = ds
  keep : ∀ t, has t W = false → a.tmps[t]? = a0.tmps[t]?

theorem keep_put {W : List Nat} {a a0 : Act} (hk : ∀ t, has t W = false → a.tmps[t]? = a0.tmps[t]?) {d : Option Nat} (hd : ∀ t, d = some t → has t W = true) (v : Value) :
    ∀ t, has t W = false → (a.put d v).tmps[t]? = a0.tmps[t]? := by
  intro t ht
  cases d with
  | none => exact hk t ht
  | some d =>
    have hne : d ≠ t := fun e => by rw [← e, hd d rfl] at ht; cases ht
    simp only [Act.put]
    rw [Array.getElem?_setIfInBounds_ne hne]
    exact hk t ht

/-- one operation of a region -/
theorem step_sound {P : Program} {ops : Array Oper} {n : Nat} {ds : List Deferred} {h0 : H} {w0 : World} {W : List Nat} {a0 : Act} {Q : Exit → Act → World → Prop} {pd : Nat → List Nat} {ex : List (Nat × Option Value)} {i : Nat} {L : List Nat}
    {fr : Fr} {h : H} {K : Fr → H → Prop} {X : Value → H → Prop} {a : Act} {w : World} (hK : UpK K)
    (hd : ∀ o ∈ ops.toList, ∀ d, o.dst = some d → d < n ∧ has d W = true)
    (hX : ∀ v h' a' w', X v h' → Rel n ds h0 w0 W a0 [] h' a' w' → Q (.panic [⟨v, false, false⟩]) a' w')
    (hr : rpt P ops.toList pd ex (i :: L) fr h K X) (rel : Rel n ds h0 w0 W a0 fr h a w) {next : Act → World → Prop}
    (hn : ∀ ex' fr' h' a' w', rpt P ops.toList pd ex' L fr' h' K X → Rel n ds h0 w0 W a0 fr' h' a' w' → next a' w') : wpOp P ops Q i next a w := by
  rw [rpt_step hK rel.sub.fin] at hr
  obtain ⟨o, ho, hr⟩ := hr
  have ho' : ops[i]? = some o := by rw [← ho, Array.getElem?_toList]
  have hdo : ∀ t, o.dst = some t → t < a.tmps.size := fun t ht => by rw [rel.size]; exact (hd o (List.mem_of_getElem? ho) t ht).1
  have hdw : ∀ t, o.dst = some t → has t W = true := fun t ht => (hd o (List.mem_of_getElem? ho) t ht).2
  unfold wpOp
  rw [ho']
  dsimp only
  rcases hr with ⟨hw, hopt⟩ | ⟨hw, hr⟩
  · rw [want_spec rel.fr hw, if_pos rfl]
    left
    refine opt_sound hopt rel.fr rel.sub (fun v h' w' hk hs' hm => ?_) (fun v h' w' hx hs' hm => hX v h' a w' hx ⟨FrOK.nil a, hs', rel.same.trans hm, rel.size, rel.defers, rel.keep⟩)
    exact hn _ _ _ _ _ (oblP_iff.1 hk).2 ⟨rel.fr.put hdo v, hs', rel.same.trans hm, by rw [size_put, rel.size], by rw [defers_put, rel.defers], keep_put rel.keep hdw _⟩
  · rw [want_spec rel.fr hw, if_neg (by simp)]
    exact hn _ _ _ _ _ hr ⟨rel.fr.put hdo undef, rel.sub, rel.same, by rw [size_put, rel.size], by rw [defers_put, rel.defers], keep_put rel.keep hdw _⟩

/-- the operations in a given order -/
theorem list_sound {P : Program} {ops : Array Oper} {n : Nat} {ds : List Deferred} {h0 : H} {w0 : World} {W : List Nat} {a0 : Act} {Q : Exit → Act → World → Prop} {pd : Nat → List Nat} {K : Fr → H → Prop} {X : Value → H → Prop} (hK : UpK K)
    (hd : ∀ o ∈ ops.toList, ∀ d, o.dst = some d → d < n ∧ has d W = true)
    (hX : ∀ v h' a' w', X v h' → Rel n ds h0 w0 W a0 [] h' a' w' → Q (.panic [⟨v, false, false⟩]) a' w')
    (hN : ∀ fr' h' a' w', K fr' h' → Rel n ds h0 w0 W a0 fr' h' a' w' → Q .normal a' w') :
    ∀ (L : List Nat) (ex : List (Nat × Option Value)) (fr : Fr) (h : H) (a : Act) (w : World), rpt P ops.toList pd ex L fr h K X → Rel n ds h0 w0 W a0 fr h a w → wpOps P ops Q L a w := by
  intro L
  induction L with
  | nil => intro ex fr h a w hr rel; exact hN fr h a w hr rel
  | cons i L ih =>
    intro ex fr h a w hr rel
    rw [wpOps_cons]
    exact step_sound hK hd hX hr rel fun ex' fr' h' a' w' hr' rel' => ih ex' fr' h' a' w' hr' rel'

theorem front {P : Program} {ops : List Oper} {pd : Nat → List Nat} {X : Value → H → Prop} {x : Nat} {L2 : List Nat} {K : Fr → H → Prop} (hK : UpK K) (hUX : UpX X) :
    ∀ (L1 : List Nat) (ex : List (Nat × Option Value)) (fr : Fr) (h : H), Fin' h → (∀ l ∈ L1, okPair P ops pd l x = true) → rpt P ops pd ex (L1 ++ x :: L2) fr h K X → rpt P ops pd ex (x :: (L1 ++ L2)) fr h K X := by
  intro L1
  induction L1 with
  | nil => intro ex fr h _ _ hr; exact hr
  | cons l L1 ih =>
    intro ex fr h hf hok hr
    refine swap hK hUX hf (hok l (by simp)) ?_
    rw [List.cons_append, rpt_step hK hf] at hr
    rw [rpt_step hK hf]
    obtain ⟨o, ho, hr⟩ := hr
    refine ⟨o, ho, hr.imp (fun a => ⟨a.1, ?_⟩) (fun a => ⟨a.1, ih _ _ _ hf (fun l hl => hok l (by simp [hl])) a.2⟩)⟩
    exact opt_mono hf (fun v h' hf' => oblP_weak (fun _ p => p) (ih _ _ _ hf' (fun l hl => hok l (by simp [hl])))) (fun _ _ x => x) a.2

theorem edgeBits_spec {acc : List Nat} {l : Nat} : ∀ (es : List Edge) (s : Nat), (es.foldl (fun s e => bif Region.binds .any e then s ||| 2 ^ e.on ||| acc.getD e.on 0 else s) s).testBit l = true →
    s.testBit l = true ∨ ∃ e ∈ es, Region.binds .any e = true ∧ (e.on = l ∨ (acc.getD e.on 0).testBit l = true) := by
  intro es
  induction es with
  | nil => intro s h; exact .inl h
  | cons e es ih =>
    intro s h
    rw [List.foldl_cons] at h
    rcases ih _ h with h | ⟨e', he', hb⟩
    · cases hb : Region.binds .any e with
      | false => rw [hb, cond_false] at h; exact .inl h
      | true =>
        rw [hb, cond_true] at h
        simp only [Nat.testBit_or, Bool.or_eq_true, Nat.testBit_two_pow, decide_eq_true_eq] at h
        rcases h with (h | h) | h
        · exact .inl h
        · exact .inr ⟨e, by simp, hb, .inl h⟩
        · exact .inr ⟨e, by simp, hb, .inr h⟩
    · exact .inr ⟨e', by simp [he'], hb⟩

theorem ancs_prefix : ∀ (L : List Oper) (acc : List Nat), ∃ r, ancs L acc = acc ++ r ∧ r.length = L.length := by
  intro L
  induction L with
  | nil => intro acc; exact ⟨[], by simp [ancs], rfl⟩
  | cons o L ih =>
    intro acc
    obtain ⟨r, h1, h2⟩ := ih (acc ++ [edgeBits acc o.after.toList])
    exact ⟨edgeBits acc o.after.toList :: r, by simp [ancs, h1], by simp [h2]⟩

theorem ancs_spec : ∀ (L : List Oper) (acc : List Nat) (k : Nat) (o : Oper) (l : Nat), L[k]? = some o → ((ancs L acc).getD (acc.length + k) 0).testBit l = true →
    ∃ e ∈ o.after.toList, Region.binds .any e = true ∧ (e.on = l ∨ ((ancs L acc).getD e.on 0).testBit l = true) := by
  intro L
  induction L with
  | nil => intro acc k o l h; simp at h
  | cons o' L ih =>
    intro acc k o l hk hb
    cases k with
    | zero =>
      simp only [List.getElem?_cons_zero, Option.some.injEq] at hk
      subst hk
      obtain ⟨r, h1, h2⟩ := ancs_prefix L (acc ++ [edgeBits acc o'.after.toList])
      simp only [ancs] at hb ⊢
      rw [h1] at hb ⊢
      have hval : (acc ++ [edgeBits acc o'.after.toList] ++ r).getD (acc.length + 0) 0 = edgeBits acc o'.after.toList := by simp [List.getD]
      rw [hval] at hb
      rcases edgeBits_spec _ _ hb with h | ⟨e, he, hbe, h⟩
      · simp at h
      · refine ⟨e, he, hbe, h.imp id fun h => ?_⟩
        have hlt : e.on < acc.length := by
          rcases Nat.lt_or_ge e.on acc.length with hlt | hge
          · exact hlt
          · rw [List.getD, List.getElem?_eq_none hge] at h; simp at h
        have : (acc ++ [edgeBits acc o'.after.toList] ++ r).getD e.on 0 = acc.getD e.on 0 := by
          simp only [List.getD, List.append_assoc]
          rw [List.getElem?_append_left hlt]
        rw [this]; exact h
    | succ k =>
      simp only [List.getElem?_cons_succ] at hk
      simp only [ancs] at hb ⊢
      exact ih (acc ++ [edgeBits acc o'.after.toList]) k o l hk (by simpa [Nat.add_assoc, Nat.add_comm 1 k] using hb)

theorem edgesOK_spec : ∀ (L : List Oper) (i k : Nat) (o : Oper), edgesOK i L = true → L[k]? = some o → ∀ e ∈ o.after.toList, Region.binds .any e = true → e.on < i + k := by
  intro L
  induction L with
  | nil => intro i k o _ h; simp at h
  | cons o' L ih =>
    intro i k o hok hk e he hb
    simp only [edgesOK, Bool.and_eq_true] at hok
    cases k with
    | zero =>
      simp only [List.getElem?_cons_zero, Option.some.injEq] at hk
      subst hk
      have := List.all_eq_true.1 hok.1 e he
      rw [hb] at this
      simpa [Nat.blt_eq] using this
    | succ k =>
      simp only [List.getElem?_cons_succ] at hk
      have := ih (i + 1) k o hok.2 hk e he hb
      omega

theorem pairsOK_mid {P : Program} {ops : List Oper} {pd : Nat → List Nat} {as : List Nat} {x : Nat} {L2 : List Nat} : ∀ (L1 : List Nat), pairsOK P ops pd as (L1 ++ x :: L2) = true →
    (∀ l ∈ L1, (as.getD x 0).testBit l = true ∨ okPair P ops pd l x = true) ∧ pairsOK P ops pd as (L1 ++ L2) = true := by
  intro L1
  induction L1 with
  | nil =>
    intro h
    simp only [List.nil_append, pairsOK, Bool.and_eq_true] at h
    exact ⟨by simp, h.2⟩
  | cons l L1 ih =>
    intro h
    simp only [List.cons_append, pairsOK, Bool.and_eq_true] at h
    obtain ⟨h1, h2⟩ := ih h.2
    refine ⟨fun l' hl' => ?_, ?_⟩
    · simp only [List.mem_cons] at hl'
      rcases hl' with rfl | hl'
      · have := List.all_eq_true.1 h.1 x (by simp)
        simp only [Bool.and_eq_true, Bool.or_eq_true] at this
        exact this.2
      · exact h1 l' hl'
    · simp only [List.cons_append, pairsOK, Bool.and_eq_true]
      refine ⟨List.all_eq_true.2 fun y hy => List.all_eq_true.1 h.1 y ?_, h2⟩
      simp only [List.mem_append, List.mem_cons] at hy ⊢
      exact hy.imp id .inr

/-- in every order -/
theorem any_sound {P : Program} {ops : Array Oper} {n : Nat} {ds : List Deferred} {h0 : H} {w0 : World} {W : List Nat} {a0 : Act} {Q : Exit → Act → World → Prop} {pd : Nat → List Nat} {K : Fr → H → Prop} {X : Value → H → Prop} (hK : UpK K) (hUX : UpX X)
    (hd : ∀ o ∈ ops.toList, ∀ d, o.dst = some d → d < n ∧ has d W = true)
    (hX : ∀ v h' a' w', X v h' → Rel n ds h0 w0 W a0 [] h' a' w' → Q (.panic [⟨v, false, false⟩]) a' w')
    (hN : ∀ fr' h' a' w', K fr' h' → Rel n ds h0 w0 W a0 fr' h' a' w' → Q .normal a' w') (hedge : edgesOK 0 ops.toList = true) :
    ∀ (fuel : Nat) (listed : Array Bool) (L : List Nat), L.length ≤ fuel → L.Nodup → (∀ i, i ∈ L ↔ i < ops.size ∧ listed.getD i true = false) → listed.size = ops.size →
      pairsOK P ops.toList pd (ancs ops.toList []) L = true → (∀ j, j < ops.size → j ∉ L → ∀ l ∈ L, ((ancs ops.toList []).getD j 0).testBit l = false) →
      ∀ (ex : List (Nat × Option Value)) (fr : Fr) (h : H) (a : Act) (w : World), rpt P ops.toList pd ex L fr h K X → Rel n ds h0 w0 W a0 fr h a w → wpAny P .any ops Q fuel listed a w := by
  intro fuel
  have ready_mem : ∀ (listed : Array Bool) (L : List Nat), (∀ i, i ∈ L ↔ i < ops.size ∧ listed.getD i true = false) → ∀ i ∈ Region.ready .any ops listed, i ∈ L := by
    intro listed L hL i hi
    obtain ⟨h0, o, ho, _⟩ := mem_ready.1 hi
    exact (hL i).2 ⟨(Array.getElem?_eq_some_iff.1 ho).1, h0⟩
  have none_ready : ∀ (listed : Array Bool) (L : List Nat), (∀ i, i ∈ L ↔ i < ops.size ∧ listed.getD i true = false) → listed.size = ops.size → Region.ready .any ops listed = [] → L = [] := by
    intro listed L hL hsz hr
    have least : ∀ m i, i ≤ m → i ∉ L := by
      intro m
      induction m with
      | zero =>
        intro i hi hmem
        have hi0 : i = 0 := by omega
        subst hi0
        obtain ⟨hlt, hun⟩ := (hL 0).1 hmem
        have : 0 ∈ Region.ready .any ops listed := mem_ready.2 ⟨hun, ops[0], Array.getElem?_eq_getElem hlt, fun e he hb => by
          have := edgesOK_spec ops.toList 0 0 ops[0] hedge (by simp [hlt]) e (by simpa using he) hb
          omega⟩
        rw [hr] at this; cases this
      | succ m ih =>
        intro i hi hmem
        rcases Nat.lt_or_ge i (m + 1) with hlt' | hge
        · exact ih i (by omega) hmem
        have him : i = m + 1 := by omega
        subst him
        obtain ⟨hlt, hun⟩ := (hL _).1 hmem
        have : m + 1 ∈ Region.ready .any ops listed := mem_ready.2 ⟨hun, ops[m + 1], Array.getElem?_eq_getElem hlt, fun e he hb => by
          have h1 := edgesOK_spec ops.toList 0 (m + 1) ops[m + 1] hedge (by simp [hlt]) e (by simpa using he) hb
          have h2 := ih e.on (by omega)
          have h3 : ¬ (e.on < ops.size ∧ listed.getD e.on true = false) := fun h => h2 ((hL _).2 h)
          have hlt2 : e.on < listed.size := by omega
          have h4 : listed.getD e.on true ≠ false := fun h => h3 ⟨by omega, h⟩
          simp only [Array.getD, hlt2, dite_true] at h4 ⊢
          simpa using h4⟩
        rw [hr] at this; cases this
    cases L with
    | nil => rfl
    | cons x r => exact absurd (by simp) (least x x (Nat.le_refl x))
  induction fuel with
  | zero =>
    intro listed L hlen _ hL hsz _ _ ex fr h a w hr rel
    have hL0 : L = [] := List.eq_nil_of_length_eq_zero (by omega)
    subst hL0
    refine ⟨?_, hN fr h a w hr rel⟩
    cases hrd : Region.ready .any ops listed with
    | nil => rfl
    | cons i r => exact absurd (ready_mem listed [] hL i (by rw [hrd]; simp)) (by simp)
  | succ fuel ih =>
    intro listed L hlen hnd hL hsz hpairs hdown ex fr h a w hr rel
    refine ⟨fun hrd => ?_, fun i hi => ?_⟩
    · have hL0 := none_ready listed L hL hsz hrd
      subst hL0
      exact hN fr h a w hr rel
    · have hiL := ready_mem listed L hL i hi
      obtain ⟨L1, L2, rfl⟩ := List.append_of_mem hiL
      obtain ⟨hun, oi, hoi, hall⟩ := mem_ready.1 hi
      have hilt : i < ops.size := (Array.getElem?_eq_some_iff.1 hoi).1
      have hnob : ∀ l ∈ L1 ++ i :: L2, ((ancs ops.toList []).getD i 0).testBit l = false := by
        intro l hl
        cases hb : ((ancs ops.toList []).getD i 0).testBit l with
        | false => rfl
        | true =>
          exfalso
          obtain ⟨e, he, hbe, h⟩ := ancs_spec ops.toList [] i oi l (by rw [Array.getElem?_toList]; exact hoi) (by simpa using hb)
          have hlisted := hall e (by simpa using he) hbe
          have hnot : e.on ∉ L1 ++ i :: L2 := fun hm => by
            have := (hL e.on).1 hm
            have hlt2 : e.on < listed.size := by omega
            simp only [Array.getD, hlt2, dite_true] at this hlisted
            rw [hlisted] at this; exact absurd this.2 (by simp)
          rcases h with rfl | h
          · exact hnot hl
          · have hlt : e.on < ops.size := by
              have := edgesOK_spec ops.toList 0 i oi hedge (by rw [Array.getElem?_toList]; exact hoi) e he hbe
              omega
            rw [hdown e.on hlt hnot l hl] at h; cases h
      obtain ⟨hp1, hp2⟩ := pairsOK_mid L1 hpairs
      have hfront := front hK hUX L1 ex fr h rel.sub.fin (fun l hl => (hp1 l hl).resolve_left (by rw [hnob l (by simp [hl])]; simp)) hr
      have hnd' : (L1 ++ L2).Nodup ∧ i ∉ L1 ++ L2 := by
        have := (List.perm_middle (a := i) (l₁ := L1) (l₂ := L2)).nodup_iff.1 hnd
        rw [List.nodup_cons] at this
        exact ⟨this.2, this.1⟩
      refine step_sound hK hd hX hfront rel fun ex' fr' h' a' w' hr' rel' => ?_
      refine ih (listed.setIfInBounds i true) (L1 ++ L2) (by simp at hlen ⊢; omega) hnd'.1 (fun k => ?_) (by simp [hsz]) hp2 (fun j hj hjn l hl => ?_) ex' fr' h' a' w' hr' rel'
      · by_cases e : k = i
        · subst e
          have hlt2 : k < listed.size := by omega
          simp [hnd'.2, hlt2, Array.getD]
        · rw [getD_set_ne true (fun h => e h.symm), ← hL k]
          simp [e]
      · by_cases e : j = i
        · subst e
          exact hnob l (by simp at hl ⊢; rcases hl with h | h <;> simp [h])
        · exact hdown j hj (by simp at hjn ⊢; exact ⟨hjn.1, e, hjn.2⟩) l (by simp at hl ⊢; rcases hl with h | h <;> simp [h])

end Go.Proofs.Ytgbmkfifjijoiaa
