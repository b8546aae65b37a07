/- Operations of a region in another order: reading, making, and all kinds when what follows is weakened. -/
import Derived.Test.YtgbmkfifjijoiaaV9
namespace Go.Proofs.Ytgbmkfifjijoiaa
open Go
set_option linter.unusedVariables false
set_option linter.unusedSimpArgs false

def isRead (P : Program) (o : Oper) : Prop := clsOf P o = 0 ∨ clsOf P o = 1 ∨ clsOf P o = 5

theorem opt_linE {P : Program} {o : Oper} (hc : isRead P o) {fr : Fr} {h : H} {K X : Value → H → Prop} (ho : opt P o fr h K X) :
    ∃ v, K v h ∧ ∀ h' K' X', Ext h h' → K' v h' → opt P o fr h' K' X' := by
  rcases hc with hc | hc
  · obtain ⟨v, hk, hr⟩ := opt_lin0 hc ho; exact ⟨v, hk, fun h' K' X' _ hk' => hr h' K' X' hk'⟩
  unfold clsOf at hc
  cases hop : o.op <;> rw [hop] at hc <;> simp only at hc <;> try (exfalso; omega)
  all_goals (unfold opt at ho ⊢; rw [hop] at ho; simp only at ho; simp only [hop])
  case load t a =>
    obtain ⟨va, hva, ho⟩ := on_spec ho
    obtain ⟨v, hk, hr⟩ := (lin_loadP (R := Ext) P t va fun a _ h h' he i _ v hv => he.cell hv) h (fun v => K v h) ho
    exact ⟨v, hk, fun h' K' X' he hk' => by rw [hva]; exact hr h' (fun v => K' v h') he hk'⟩
  case binOp op t x y yt =>
    obtain ⟨vx, hvx, ho⟩ := on_spec ho
    obtain ⟨vy, hvy, ho⟩ := on_spec ho
    obtain ⟨v, hk, hr⟩ := (lin_binP P op t x y vx vy) h (fun v => K v h) ho
    exact ⟨v, hk, fun h' K' X' he hk' => by rw [hvx, hvy]; exact hr h' (fun v => K' v h') he hk'⟩
  case unOp op t x =>
    obtain ⟨v, hk, hr⟩ := (lin_on (R := Ext) (evalO fr x) fun v => lin_unP P op v) h (fun v => K v h) ho
    exact ⟨v, hk, fun h' K' X' he hk' => hr h' (fun v => K' v h') he hk'⟩
  case convert s d x =>
    obtain ⟨v, hk, hr⟩ := (lin_on (R := Ext) (evalO fr x) fun v => lin_convP P s d v) h (fun v => K v h) ho
    exact ⟨v, hk, fun h' K' X' he hk' => hr h' (fun v => K' v h') he hk'⟩
  case slice t x lo hi mx =>
    obtain ⟨v, hk, hr⟩ := (lin_on (R := Ext) (evalO fr x) fun v => lin_on (optE fr lo) fun lo => lin_on (optE fr hi) fun hi => lin_on (optE fr mx) fun mx => lin_sliceP P t v lo hi mx) h (fun v => K v h) ho
    exact ⟨v, hk, fun h' K' X' he hk' => hr h' (fun v => K' v h') he hk'⟩
  case index t x i =>
    obtain ⟨v, hk, hr⟩ := (lin_on (R := Ext) (evalO fr x) fun v => lin_on (evalO fr i) fun vi => lin_indexP P t v vi) h (fun v => K v h) ho
    exact ⟨v, hk, fun h' K' X' he hk' => hr h' (fun v => K' v h') he hk'⟩
  case typeAssert x t a ok =>
    obtain ⟨v, hk, hr⟩ := (lin_on (R := Ext) (evalO fr x) fun v => lin_runP P (Instr.typeAssert v t a ok)) h (fun v => K v h) ho
    exact ⟨v, hk, fun h' K' X' he hk' => hr h' (fun v => K' v h') he hk'⟩
  case call c =>
    exfalso
    cases hcal : c.callee <;> rw [hcal] at hc <;> (try simp only at hc) <;> try omega
    rename_i b
    cases b <;> first | (simp at hc; done) | omega | (dsimp only at hc; omega)

/-- a load, over a heap in which its place reads the same -/
theorem opt_linL {P : Program} {o : Oper} (hc : clsOf P o = 1) {fr : Fr} {h : H} {K X : Value → H → Prop} (ho : opt P o fr h K X) :
    ∃ v, K v h ∧ ∀ h' K' X', rdSame P o (ldAddr fr o) h h' → K' v h' → opt P o fr h' K' X' := by
  unfold clsOf at hc
  cases hop : o.op <;> rw [hop] at hc <;> simp only at hc <;> try (exfalso; omega)
  all_goals (unfold opt at ho ⊢; rw [hop] at ho; simp only at ho; simp only [hop])
  case load t a =>
    obtain ⟨va, hva, ho⟩ := on_spec ho
    have hrd : ∀ h h', rdSame P o (ldAddr fr o) h h' → ∀ p, va = .pointer (some p) → ∀ i, i < P.cellsOf t + 1 → hcell h' (p.add i) = hcell h (p.add i) := by
      intro h h' hr p hp i hi
      unfold rdSame ldAddr at hr
      rw [hop] at hr
      simp only [hva] at hr
      subst hp
      exact hr i hi
    obtain ⟨v, hk, hr⟩ := (lin_loadP (R := fun h h' => rdSame P o (ldAddr fr o) h h') P t va fun a ha h h' he i hi v hv => by rw [hrd h h' he a ha i hi]; exact hv) h (fun v => K v h) ho
    exact ⟨v, hk, fun h' K' X' he hk' => by rw [hva]; exact hr h' (fun v => K' v h') he hk'⟩
  case unOp op t x => exfalso; split at hc <;> omega
  case convert s d x => exfalso; split at hc <;> omega
  case slice t x lo hi mx => exfalso; (repeat' split at hc) <;> omega
  case index t x i => exfalso; split at hc <;> omega
  case binOp op t x y yt =>
    exfalso
    rcases hu : P.underlying t with _ | d
    · rw [hu] at hc; cases hc
    · rw [hu] at hc
      cases d <;> simp only at hc <;> try omega
      all_goals (split at hc <;> omega)
  case call c =>
    exfalso
    cases hcal : c.callee <;> rw [hcal] at hc <;> (try simp only at hc) <;> try omega
    rename_i b
    cases b <;> first | (simp at hc; done) | omega | (dsimp only at hc; omega)

/-- a new block: what lies in it, and what is told of it -/
theorem opt_new {P : Program} {o : Oper} (hc : clsOf P o = 2) (fr : Fr) :
    ∃ (W : Prop) (obj : Obj) (vf : Nat → Value), ∀ h K X, opt P o fr h K X ↔ W ∧ newP h obj fun b h' => K (vf b) h' := by
  have no : ∀ {A : H → (Value → H → Prop) → (Value → H → Prop) → Prop}, (∀ h K X, ¬ A h K X) → ∃ (W : Prop) (obj : Obj) (vf : Nat → Value), ∀ h K X, A h K X ↔ W ∧ newP h obj fun b h' => K (vf b) h' :=
    fun hA => ⟨False, .cells #[] 0, fun _ => undef, fun h K X => ⟨fun a => (hA h K X a).elim, fun a => a.1.elim⟩⟩
  unfold clsOf at hc
  cases hop : o.op <;> rw [hop] at hc <;> simp only at hc <;> try (exfalso; omega)
  all_goals (unfold opt; simp only [hop])
  case alloc e =>
    unfold allocP
    cases zeroOf P e with
    | none => exact no fun h K X a => a
    | some z => exact ⟨True, _, _, fun h K X => by simp only [on, true_and]; exact Iff.rfl⟩
  case box e x =>
    unfold boxP
    cases evalO fr x with
    | none => exact no fun h K X a => a
    | some v => exact ⟨True, _, _, fun h K X => by simp only [on, true_and]; exact Iff.rfl⟩
  case buildSlice t n parts =>
    cases zipE fr parts.toList with
    | none => exact no fun h K X a => a
    | some ps =>
      simp only [on]
      unfold buildSliceP
      rcases P.underlying t with _ | d
      · exact no fun h K X a => a
      · cases d <;> try exact no fun h K X a => a
        rename_i e
        dsimp only
        cases zeroOf P e with
        | none => exact no fun h K X a => a
        | some z =>
          dsimp only [on]
          cases (Nat.beq z.length (P.cellsOf e) && Nat.ble (n * P.cellsOf e) (2 ^ 24)) with
          | false => exact no fun h K X a => a
          | true =>
            obtain ⟨W, cs, hW⟩ := fillP_det (P := P) (len := n * P.cellsOf e) (place := fun i => some (i * P.cellsOf e, e)) ps (zrep z n)
            exact ⟨W, .cells ⟨cs⟩ e (0, 0), fun b => .slice (some ⟨b, 0, none⟩) n n, fun h K X => by simp only [cond_true]; exact hW _⟩
  case makeSlice t l c =>
    cases evalO fr l with
    | none => exact no fun h K X a => a
    | some vl =>
    cases evalO fr c with
    | none => exact no fun h K X a => a
    | some vc =>
      simp only [on]
      unfold makeSliceP
      rcases P.underlying t with _ | d
      · exact no fun h K X a => a
      · cases d <;> try exact no fun h K X a => a
        rename_i e
        dsimp only
        cases zeroOf P e with
        | none => exact no fun h K X a => a
        | some z =>
          dsimp only [on]
          cases (Nat.beq z.length (P.cellsOf e)) with
          | false => exact no fun h K X a => a
          | true =>
            cases vl <;> try exact no fun h K X a => a
            cases vc <;> try exact no fun h K X a => a
            rename_i k1 l' k2 c'
            refine ⟨0 ≤ l' ∧ l' ≤ c' ∧ c' * P.bytesOf e ≤ 2 ^ 48 ∧ c' ≤ 2 ^ 48, .cells ⟨zrep z c'.toNat⟩ e (0, 0), fun b => .slice (some ⟨b, 0, none⟩) l'.toNat c'.toNat, fun h K X => ?_⟩
            simp only [cond_true, intP]
            constructor
            · rintro ⟨a, b, c, d, e⟩; exact ⟨⟨a, b, c, d⟩, e⟩
            · rintro ⟨⟨a, b, c, d⟩, e⟩; exact ⟨a, b, c, d, e⟩
  case unOp op t x => exfalso; split at hc <;> omega
  case convert s d x => exfalso; split at hc <;> omega
  case slice t x lo hi mx => exfalso; (repeat' split at hc) <;> omega
  case index t x i => exfalso; split at hc <;> omega
  case binOp op t x y yt =>
    exfalso
    rcases hu : P.underlying t with _ | d
    · rw [hu] at hc; cases hc
    · rw [hu] at hc
      cases d <;> simp only at hc <;> try omega
      all_goals (split at hc <;> omega)
  case call c =>
    exfalso
    cases hcal : c.callee <;> rw [hcal] at hc <;> (try simp only at hc) <;> try omega
    rename_i b
    cases b <;> first | (simp at hc; done) | omega | (dsimp only at hc; omega)

theorem ty1_mono {P : Program} {t : TypeId} {K K' : Value → Prop} (hk : ∀ v, K v → K' v) (h : ty1 P t K) : ty1 P t K' := by
  unfold ty1 at h ⊢
  revert h
  rcases P.underlying t with _ | d
  · rintro ⟨v, h⟩; exact ⟨v, hk _ h⟩
  · cases d <;> first
      | (rintro ⟨v, h⟩; exact ⟨v, hk _ h⟩)
      | (rintro ⟨v, h1, h⟩; exact ⟨v, h1, hk _ h⟩)

theorem tyL_mono {P : Program} : ∀ {ts : List TypeId} {K K' : List Value → Prop}, (∀ v, K v → K' v) → tyL P ts K → tyL P ts K' := by
  intro ts
  induction ts with
  | nil => intro K K' hk h; exact hk _ h
  | cons t r ih => intro K K' hk h; exact ty1_mono (fun v h => ih (fun vs h => hk _ h) h) h

theorem tyV_mono {P : Program} {t : TypeId} {v : Value} {K K' : Value → Prop} (hk : ∀ v, K v → K' v) (h : tyV P t v K) : tyV P t v K' := by
  unfold tyV at h ⊢
  revert h
  rcases P.underlying t with _ | d
  · exact id
  · cases d <;> first
      | (exact tyL_mono (fun vs h => ⟨h.1, hk _ h.2⟩))
      | (rintro ⟨n, e, h⟩; exact ⟨n, e, hk _ h⟩)
      | (rintro ⟨n, l, e, h⟩; exact ⟨n, l, e, hk _ h⟩)
      | exact hk _

theorem onRet_mono {P : Program} {t : TypeId} {K K' X X' : Value → H → Prop} (hk : ∀ v h, K v h → K' v h) (hx : ∀ v h, X v h → X' v h) (r : Res) (h : H)
    (hr : onRet P t K X r h) : onRet P t K' X' r h := by
  cases r with
  | ret v => exact tyV_mono (fun v => hk v h) (show tyV P t v (fun v => K v h) from hr)
  | pan v => exact hx v h hr

/-- There are blocks left. -/
def Fin' (h : H) : Prop := ∃ N, ∀ b, N ≤ b → h b = none
theorem Sub.fin {h : H} {w : World} (hs : Sub h w) : Fin' h := ⟨w.heap.size, fun b hb => by
  cases e : h b with
  | none => rfl
  | some o => have := hs _ _ e; rw [Array.getElem?_eq_none hb] at this; cases this⟩
theorem Fin'.fresh {h : H} (hf : Fin' h) : ∃ b, h b = none := let ⟨N, hN⟩ := hf; ⟨N, hN N (Nat.le_refl N)⟩
theorem Fin'.put {h : H} (hf : Fin' h) (b : Nat) (o : Obj) : Fin' (hput h b o) := let ⟨N, hN⟩ := hf; ⟨max N (b + 1), fun k hk => by
  unfold hput
  rw [if_neg (by omega)]
  exact hN k (by omega)⟩
theorem Fin'.set {h : H} (hf : Fin' h) (a : Addr) (vs : List Value) : Fin' (hset h a vs) := let ⟨N, hN⟩ := hf; ⟨N, fun k hk => by
  unfold hset
  split
  · rw [hN k hk]; rfl
  · exact hN k hk⟩

theorem T.monoF {P : Program} {f : FuncId} {args : List Value} {h : H} {R R' : Res → H → Prop} (t : T P f args h R)
    (hr : ∀ r h', Fin' h' → R r h' → R' r h') : T P f args h R' := by
  refine ⟨t.1, fun w hw => (t.2 w hw).mono ?_⟩
  rintro e w' ⟨h', hs, hm, hq⟩
  refine ⟨h', hs, hm, ?_⟩
  split at hq
  · exact hr _ _ hs.fin hq
  · exact hr _ _ hs.fin hq
  · exact hq.elim

theorem T.frame {P : Program} {f : FuncId} {args : List Value} {h : H} {R : Res → H → Prop} (t : T P f args h R) {b : Nat} (hb : h b = none) (o : Obj) :
    T P f args (hput h b o) fun r h2 => ∃ h1, h1 b = none ∧ h2 = hput h1 b o ∧ R r h1 := by
  refine ⟨t.1, fun w hw => ?_⟩
  have hwb : w.heap[b]? = some o := hw b o (by simp [hput])
  have hlt : b < w.heap.size := (Array.getElem?_eq_some_iff.1 hwb).1
  have hs : Sub h w := fun k ob hk => hw k ob (by unfold hput; split; · rename_i e; subst e; rw [hb] at hk; cases hk
                                                  · exact hk)
  refine (t.2 w hs).mono ?_
  rintro e w' ⟨h', hs', hm, hq⟩
  obtain ⟨e1, n1⟩ := hm.frame b hlt hb
  refine ⟨hput h' b o, fun k ob hk => ?_, ⟨hm.same, hm.size, fun k hk hn => ?_⟩, ?_⟩
  · unfold hput at hk
    split at hk
    · rename_i e2; subst e2; cases hk; rw [e1]; exact hwb
    · exact hs' k ob hk
  · unfold hput at hn
    split at hn
    · cases hn
    · rename_i hne
      obtain ⟨e2, n2⟩ := hm.frame k hk hn
      exact ⟨e2, by unfold hput; rw [if_neg hne]; exact n2⟩
  · split at hq
    · exact ⟨h', n1, rfl, hq⟩
    · exact ⟨h', n1, rfl, hq⟩
    · exact hq.elim

theorem onRet_monoF {P : Program} {t : TypeId} {K K' X X' : Value → H → Prop} {h : H} (hf : Fin' h) (hk : ∀ v h, Fin' h → K v h → K' v h) (hx : ∀ v h, X v h → X' v h) (r : Res)
    (hr : onRet P t K X r h) : onRet P t K' X' r h := by
  cases r with
  | ret v => exact tyV_mono (fun v => hk v h hf) (show tyV P t v (fun v => K v h) from hr)
  | pan v => exact hx v h hr

theorem opt_mono {P : Program} {o : Oper} {fr : Fr} {h : H} {K K' X X' : Value → H → Prop} (hf : Fin' h) (hk : ∀ v h, Fin' h → K v h → K' v h) (hx : ∀ v h, X v h → X' v h)
    (ho : opt P o fr h K X) : opt P o fr h K' X' := by
  by_cases h5 : isRead P o
  · obtain ⟨v, hv, hr⟩ := opt_linE h5 ho; exact hr h K' X' (Ext.refl h) (hk _ _ hf hv)
  by_cases h2 : clsOf P o = 2
  · obtain ⟨W, obj, vf, hW⟩ := opt_new h2 fr
    rw [hW] at ho ⊢
    exact ⟨ho.1, fun b hb => hk _ _ (hf.put _ _) (ho.2 b hb)⟩
  unfold isRead clsOf at h5
  unfold clsOf at h2
  cases hop : o.op <;> rw [hop] at h2 h5 <;> simp only at h2 h5 <;> try (exfalso; omega)
  all_goals try (exfalso; first | (simp at h5; done) | (simp at h2; done))
  case unOp op t x => exfalso; apply h5; split <;> simp
  case convert s d x => exfalso; apply h5; split <;> simp
  case slice t x lo hi mx => exfalso; apply h5; (repeat' split) <;> simp
  case index t x i => exfalso; apply h5; split <;> simp
  case binOp op t x y yt =>
    obtain ⟨vx, hvx, ho2⟩ := on_spec (show on (evalO fr x) (fun vx => on (evalO fr y) fun vy => binP P op t x y vx vy h fun v => K v h) by unfold opt at ho; rw [hop] at ho; exact ho)
    obtain ⟨vy, hvy, ho3⟩ := on_spec ho2
    obtain ⟨v, hk1, hr⟩ := (lin_binP P op t x y vx vy) h (fun v => K v h) ho3
    unfold opt
    rw [hop]
    dsimp only
    rw [hvx, hvy]
    exact hr h (fun v => K' v h) (Ext.refl h) (hk _ _ hf hk1)
  all_goals (unfold opt at ho ⊢; rw [hop] at ho ⊢)
  all_goals try exact ho.elim
  all_goals dsimp only at ho ⊢
  case store t a v =>
    obtain ⟨va, hva, ho⟩ := on_spec ho
    obtain ⟨vv, hvv, ho⟩ := on_spec ho
    rw [hva, hvv]
    simp only [on]
    unfold storeP at ho ⊢
    obtain ⟨p, rfl, ho2⟩ := ptrP_spec ho
    show (match P.underlying t with | some (.struct _) => aggP vv fun vs => stN h p vs (P.cellsOf t) fun h' => K' undef h' | some (.array _ _) => aggP vv fun vs => stN h p vs (P.cellsOf t) fun h' => K' undef h' | some _ => bif Nat.beq (P.cellsOf t) 1 then oneP vv (stC h p vv fun h' => K' undef h') else False | none => False)
    revert ho2
    have agg : (aggP vv fun vs => stN h p vs (P.cellsOf t) fun h' => K undef h') → (aggP vv fun vs => stN h p vs (P.cellsOf t) fun h' => K' undef h') := by
      intro hh
      obtain ⟨cs, rfl, h1, h2, h3, h4⟩ := aggP_spec hh
      exact ⟨h1, h2, h3, hk _ _ (hf.set _ _) h4⟩
    have one : (bif Nat.beq (P.cellsOf t) 1 then oneP vv (stC h p vv fun h' => K undef h') else False) → (bif Nat.beq (P.cellsOf t) 1 then oneP vv (stC h p vv fun h' => K' undef h') else False) := by
      cases Nat.beq (P.cellsOf t) 1 with
      | false => exact id
      | true =>
        simp only [cond_true]
        intro hh
        cases vv <;> first
          | exact hh.elim
          | exact ⟨hh.1, hk _ _ (hf.set _ _) hh.2⟩
    rcases P.underlying t with _ | d
    · exact id
    · cases d <;> first
        | exact agg
        | exact one
  case call c =>
    obtain ⟨args, hargs, ho⟩ := on_spec ho
    rw [hargs]
    simp only [on]
    cases hcal : c.callee <;> rw [hcal] at ho h2 h5 <;> simp only at ho h2 h5 ⊢
    case builtin b =>
      cases b <;> simp only at h2 h5 <;> try (exfalso; omega)
      all_goals (unfold builtinP at ho ⊢; split at ho <;> try (first | exact ho.elim | contradiction))
      rename_i ts tx s x hb ht
      unfold appendP at ho ⊢
      revert ho
      rcases P.underlying ts with _ | d1
      · exact id
      · cases d1 <;> try exact id
        rename_i e
        rcases P.underlying tx with _ | d2
        · exact id
        · cases d2 <;> try exact id
          dsimp only
          intro ho
          obtain ⟨z, hz, ho⟩ := on_spec ho
          rw [hz]
          simp only [on]
          revert ho
          cases (Nat.beq z.length (P.cellsOf e) && !Nat.beq (P.bytesOf e) 0 && !Nat.beq (P.cellsOf e) 0) with
          | false => exact id
          | true =>
            simp only [cond_true]
            intro ho
            obtain ⟨base, sl, sc, rfl, ho2⟩ := slcP_spec ho
            obtain ⟨xa, n, xc, rfl, new, h1, h2, h3⟩ := slcP_spec ho2
            refine ⟨new, h1, fun hr => ?_, fun hr => ?_⟩
            · have := h2 hr
              cases base with
              | none => exact ⟨this.1, hk _ _ hf this.2⟩
              | some a => exact ⟨this.1, this.2.1, hk _ _ (hf.set _ _) this.2.2⟩
            · obtain ⟨h4, old, h5, h6⟩ := h3 hr
              exact ⟨h4, old, h5, fun cap hc b hb => hk _ _ (hf.put _ _) (h6 cap hc b hb)⟩
    case value f =>
      obtain ⟨vf, hvf, ho⟩ := on_spec ho
      rw [hvf]
      obtain ⟨fid, first, cap, rfl, ht⟩ := funP_spec ho
      exact ht.monoF fun r h' hf' => onRet_monoF hf' hk hx r
    case invoke r name =>
      obtain ⟨vf, hvf, ho⟩ := on_spec ho
      rw [hvf]
      obtain ⟨t, u, rfl, f, rv, hm, ht⟩ := methP_spec ho
      exact ⟨f, rv, hm, ht.monoF fun r h' hf' => onRet_monoF hf' hk hx r⟩
  case panic x =>
    obtain ⟨v, hv, ho⟩ := on_spec ho
    rw [hv]
    obtain ⟨t, u, rfl, ho2⟩ := panP_spec ho
    exact hx _ _ ho2

end Go.Proofs.Ytgbmkfifjijoiaa
