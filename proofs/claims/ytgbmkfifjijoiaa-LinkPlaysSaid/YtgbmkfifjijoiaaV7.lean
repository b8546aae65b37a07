/- Each operation comes to what 'opt' says of it: all together. -/
import Derived.Test.YtgbmkfifjijoiaaV6
namespace Go.Proofs.Ytgbmkfifjijoiaa
open Go
set_option linter.unusedVariables false
set_option linter.unusedSimpArgs false

theorem indexP_run {P : Program} {t : TypeId} {x ix : Value} {h : H} {K : Value → Prop} (hb : indexP P t x ix h K) :
    ∃ r, K r ∧ ∀ w, Sub h w → (Instr.index t x ix).run P w = .ok r w := by
  unfold indexP at hb
  split at hb
  · rename_i n e hu
    obtain ⟨k, i, e1, hb1⟩ := intP_spec hb
    obtain ⟨cs, e2, h0, h1, hb2⟩ := aggP_spec hb1
    clear hb hb1
    subst e1; subst e2
    have hpos : ∃ d, P.underlying e = some d := by
      unfold partP at hb2
      cases hu2 : P.underlying e with
      | none => rw [hu2] at hb2; exact hb2.elim
      | some d => exact ⟨d, rfl⟩
    obtain ⟨d, hd⟩ := hpos
    obtain ⟨r, hk, hr⟩ := partP_run hb2
    exact ⟨r, hk, fun w _ => by simp [Instr.index, asIntOf, run_underlying hu, h0, h1, run_sizeOf' hd, hr]⟩
  · obtain ⟨r, hr, hk⟩ := hb; exact ⟨r, hk, hr⟩

theorem fieldP_run {P : Program} {t : TypeId} {x : Value} {f : Nat} {K : Value → Prop} (hb : fieldP P t x f K) :
    ∃ r, K r ∧ ∀ w, (Instr.field t x f).run P w = .ok r w := by
  unfold fieldP at hb
  split at hb
  · rename_i fs hu
    obtain ⟨fd, hf, hb1⟩ := on_spec hb
    obtain ⟨cs, e2, hb2⟩ := aggP_spec hb1
    clear hb hb1
    subst e2
    obtain ⟨r, hk, hr⟩ := partP_run hb2
    have hf' : fs[f]? = some fd := by rw [← hf, Array.getElem?_toList]
    exact ⟨r, hk, fun w => by simp [Instr.field, run_underlying hu, hf', asAgg, hr]⟩
  · exact hb.elim

theorem fieldAddrP_run {P : Program} {t : TypeId} {x : Value} {f : Nat} {K : Value → Prop} (hb : fieldAddrP P t x f K) :
    ∃ r, K r ∧ ∀ w, (Instr.fieldAt t x f).run P w = .ok r w := by
  unfold fieldAddrP at hb
  split at hb
  · rename_i fs hu
    obtain ⟨fd, hf, hb1⟩ := on_spec hb
    cases hz : Nat.beq (P.cellsOf fd.type) 0 with
    | true => simp [hz] at hb1
    | false =>
    rw [hz, cond_false] at hb1
    obtain ⟨a, e2, hb2⟩ := ptrP_spec hb1
    clear hb hb1
    subst e2
    obtain ⟨inf, hinf, hsz⟩ := info_of_cells hz
    have hne : ¬ inf.size = 0 := by rw [← hsz]; intro h0; rw [h0] at hz; simp at hz
    have hf' : fs[f]? = some fd := by rw [← hf, Array.getElem?_toList]
    exact ⟨_, hb2, fun w => by simp [Instr.fieldAt, run_underlying hu, hf', Instr.sureAddr, fieldPlace, sizeOf, typeInfo, hinf, hne]⟩
  · exact hb.elim


theorem run_sliceBound {P : Program} (k : IntKind) (i : Int) (y : Nat) (code : BoundsCode) (h0 : 0 ≤ i) (h1 : i ≤ (y : Int)) (w : World) :
    (Instr.sliceBound (.int k i) y code).run P w = .ok i.toNat w := by simp [Instr.sliceBound, asIntOf, h0, h1]

theorem bndP_spec {v : Option Value} {d : Int} {K : Int → Prop} (h : bndP v d K) : (v = none ∧ K d) ∨ ∃ k i, v = some (.int k i) ∧ K i := by
  unfold bndP at h
  split at h
  · exact .inl ⟨rfl, h⟩
  · exact .inr ⟨_, _, rfl, h⟩
  · exact h.elim

theorem sliceP_run {P : Program} {t : TypeId} {x : Value} {lo hi mx : Option Value} {h : H} {K : Value → Prop} (hb : sliceP P t x lo hi mx h K) :
    ∃ r, K r ∧ ∀ w, Sub h w → (Instr.sliceAt t x lo hi mx).run P w = .ok r w := by
  unfold sliceP at hb
  split at hb
  · rename_i e hu
    split at hb
    · cases hz : Nat.beq (P.cellsOf e) 0 with
      | true => simp [hz] at hb
      | false =>
      rw [hz, cond_false] at hb
      obtain ⟨a, l, c, e1, hb1⟩ := slcP_spec hb
      clear hb
      subst e1
      obtain ⟨inf, hinf, hsz⟩ := info_of_cells hz
      rcases bndP_spec hb1 with ⟨rfl, h0, h1, hb2⟩ | ⟨k, i, rfl, h0, h1, hb2⟩
      · rcases bndP_spec hb2 with ⟨rfl, h2, h3, hk⟩ | ⟨k2, i2, rfl, h2, h3, hk⟩
        · exact ⟨_, hk, fun w _ => by simp [Instr.sliceAt, Instr.slice, run_underlying hu, Instr.sliceBounds, sizeOf, typeInfo, hinf, sliceV, hsz]⟩
        · exact ⟨_, hk, fun w _ => by simp [Instr.sliceAt, Instr.slice, run_underlying hu, Instr.sliceBounds, run_sliceBound _ _ _ _ h2 h3, sizeOf, typeInfo, hinf, sliceV, hsz]⟩
      · rcases bndP_spec hb2 with ⟨rfl, h2, h3, hk⟩ | ⟨k2, i2, rfl, h2, h3, hk⟩
        · exact ⟨_, hk, fun w _ => by simp [Instr.sliceAt, Instr.slice, run_underlying hu, Instr.sliceBounds, run_sliceBound _ _ _ _ h0 h1, sizeOf, typeInfo, hinf, sliceV, hsz]⟩
        · have h3' : i2 ≤ ((i.toNat : Nat) : Int) := by omega
          exact ⟨_, hk, fun w _ => by simp [Instr.sliceAt, Instr.slice, run_underlying hu, Instr.sliceBounds, run_sliceBound _ _ _ _ h0 h1, run_sliceBound _ _ _ _ h2 h3', sizeOf, typeInfo, hinf, sliceV, hsz]⟩
    · obtain ⟨r, hr, hk⟩ := hb; exact ⟨r, hk, hr⟩
  · obtain ⟨r, hr, hk⟩ := hb; exact ⟨r, hk, hr⟩

theorem ty1_spec {P : Program} {t : TypeId} {K : Value → Prop} (h : ty1 P t K) : ∃ v, K v := by
  unfold ty1 at h
  split at h
  · obtain ⟨n, h⟩ := h; exact ⟨_, h⟩
  · obtain ⟨n, h⟩ := h; exact ⟨_, h⟩
  · obtain ⟨n, _, h⟩ := h; exact ⟨_, h⟩
  · obtain ⟨n, _, h⟩ := h; exact ⟨_, h⟩
  · exact h

theorem tyL_spec {P : Program} : ∀ {ts : List TypeId} {K : List Value → Prop}, tyL P ts K → ∃ vs, K vs := by
  intro ts
  induction ts with
  | nil => intro K h; exact ⟨[], h⟩
  | cons t r ih =>
    intro K h
    obtain ⟨v, h⟩ := ty1_spec h
    obtain ⟨vs, h⟩ := ih h
    exact ⟨_, h⟩

theorem tyV_spec {P : Program} {t : TypeId} {v : Value} {K : Value → Prop} (h : tyV P t v K) : K v := by
  unfold tyV at h
  split at h
  · obtain ⟨vs, e, h⟩ := tyL_spec h; rw [e]; exact h
  · obtain ⟨n, e, h⟩ := h; rw [e]; exact h
  · obtain ⟨n, e, h⟩ := h; rw [e]; exact h
  · obtain ⟨n, _, e, h⟩ := h; rw [e]; exact h
  · obtain ⟨n, _, e, h⟩ := h; rw [e]; exact h
  · exact h
  · exact h.elim

theorem foldI_run {P : Program} {f : Int → Int → Int} {m : Value → Value → Sem Value} (hm : ∀ k k' a b w, (m (.int k a) (.int k' b)).run P w = .ok (.int k (f a b)) w) :
    ∀ (r : List Value) (v : Value) (K : Value → Prop), foldI f v r K → ∃ u, K u ∧ ∀ w, (r.foldlM m v).run P w = .ok u w := by
  intro r
  induction r with
  | nil => intro v K h; exact ⟨v, by simpa [foldI] using h, fun w => rfl⟩
  | cons x r ih =>
    intro v K h
    cases v <;> cases x <;> first
      | (simp only [foldI] at h; done)
      | (exact h.elim)
      | (simp only [foldI] at h
         obtain ⟨u, hk, hr⟩ := ih _ _ h
         exact ⟨u, hk, fun w => by simp [List.foldlM_cons, hm, hr]⟩)

theorem lenP_run {P : Program} {t ty : TypeId} {x : Value} {h : H} {K : Value → Prop} (hb : lenP P t x h K) :
    ∃ r, K r ∧ ∀ w, (Builtin.len_ #[t] ty #[x]).run P w = .ok r w := by
  unfold lenP at hb
  split at hb
  · rename_i e hu
    obtain ⟨a, l, c, e1, hk⟩ := slcP_spec hb
    subst e1
    exact ⟨_, hk, fun w => by simp [Builtin.len_, run_underlying hu, goInt]⟩
  · rename_i hu
    split at hb
    · exact ⟨_, hb, fun w => by simp [Builtin.len_, run_underlying hu, goInt]⟩
    · exact hb.elim
  · rename_i n e hu
    refine ⟨_, hb, fun w => ?_⟩
    cases x <;> simp [Builtin.len_, run_underlying hu, goInt]
  · exact hb.elim

theorem builtinP_run {P : Program} {b : Builtin} {ts : List TypeId} {ty : TypeId} {cs : Array Bool} {args : List Value} {h : H} {K : Value → H → Prop}
    (hb : builtinP P b ts args h K) (w : World) (hs : Sub h w) :
    ∃ r h' w', K r h' ∧ (builtin b ⟨ts⟩ ty cs ⟨args⟩).run P w = .ok (.value r) w' ∧ Sub h' w' ∧ Stp h w h' w' := by
  unfold builtinP at hb
  split at hb
  · obtain ⟨r, hk, hr⟩ := lenP_run (ty := ty) hb
    exact ⟨r, h, w, hk, by simp [builtin, hr w], hs, Stp.refl h w⟩
  · obtain ⟨r, h', w', hk, hr, hs', hm⟩ := appendP_run (ty := ty) hb w hs
    exact ⟨r, h', w', hk, by simp [builtin, hr], hs', hm⟩
  · obtain ⟨r, hk, hr⟩ := foldI_run (P := P) (m := Builtin.min2) (fun k k' a b w => by simp [Builtin.min2]) _ _ _ hb
    exact ⟨r, h, w, hk, by simp [builtin, Builtin.min_, hr w], hs, Stp.refl h w⟩
  · obtain ⟨r, hk, hr⟩ := foldI_run (P := P) (m := Builtin.max2) (fun k k' a b w => by simp [Builtin.max2]) _ _ _ hb
    exact ⟨r, h, w, hk, by simp [builtin, Builtin.max_, hr w], hs, Stp.refl h w⟩
  · exact hb.elim

theorem mkIfcP_run {P : Program} {t : TypeId} {x : Value} {K : Value → Prop} (hb : mkIfcP P t x K) :
    ∃ r, K r ∧ ∀ w, (Instr.makeInterface t x).run P w = .ok r w := by
  unfold mkIfcP at hb
  split at hb
  · exact hb.elim
  · rename_i d hd hu
    refine ⟨_, hb, fun w => ?_⟩
    cases d <;> first
      | (simp [Instr.makeInterface, run_underlying hu]; done)
      | (exact (hd _ rfl).elim)
  · exact hb.elim

theorem funP_spec {P : Program} {f : Value} {args : List Value} {K : FuncId → List Value → Prop} (h : funP P f args K) :
    ∃ fid first cap, f = .func (.func fid) ⟨first⟩ ⟨cap⟩ ∧ K fid (first ++ (args ++ cap)) := by
  unfold funP at h
  split at h
  · exact ⟨_, _, _, rfl, h⟩
  · exact h.elim

theorem methP_spec {P : Program} {h : H} {v : Value} {name : String} {K : FuncId → Value → Prop} (hm : methP P h v name K) :
    ∃ t u, v = .iface t u ∧ ∃ f rv, (∀ w, Sub h w → (method (P.types.size + Made.depth) t u name).run P w = .ok (f, rv) w) ∧ K f rv := by
  unfold methP at hm
  split at hm
  · exact ⟨_, _, rfl, hm⟩
  · exact hm.elim

theorem panP_spec {v : Value} {X : Value → Prop} (h : panP v X) : ∃ t u, v = .iface t u ∧ X (.iface t u) := by
  unfold panP at h
  split at h
  · exact ⟨_, _, rfl, h⟩
  · exact h.elim

theorem run_callFunc {P : Program} {f : FuncId} (hf : ∃ fn, P.funcs[f]? = some fn ∧ fn.body.isNone = false ∧ (fn.name == "runtime.NumGoroutine") = false) (args : Array Value) (w : World) :
    (callFunc f args).run P w = .ok (.enter f args) w := by
  obtain ⟨fn, h1, h2, h3⟩ := hf
  simp only [callFunc, Sem.run_bind, run_program, Result.andThen_ok, h1, h3, Bool.false_eq_true, if_false, h2, Sem.run_pure]

/-- A call: what 'T' says, in the words of the walk. -/
theorem T_wp {P : Program} {o : Oper} {f : FuncId} {args : List Value} {h : H} {K X : Value → H → Prop} {a : Act} {w : World} {next : Act → World → Prop} {Q : Exit → Act → World → Prop}
    (ht : T P f args h (onRet P o.type K X)) (hs : Sub h w) (hrun : (execOp a.eval o).run P w = .ok (.enter f ⟨args⟩) w)
    (hK : ∀ v h' w', K v h' → Sub h' w' → Stp h w h' w' → next (a.put o.dst v) w')
    (hX : ∀ v h' w', X v h' → Sub h' w' → Stp h w h' w' → Q (.panic [⟨v, false, false⟩]) a w') : o.wp P a w next Q := by
  unfold Oper.wp
  rw [hrun, Oper.upon_enter]
  refine (ht.2 w hs).mono ?_
  rintro e w' ⟨h', hs', hm, hq⟩
  split at hq
  · exact hK _ _ _ (tyV_spec (show tyV P o.type _ (fun v => K v h') from hq)) hs' hm
  · exact hX _ _ _ hq hs' hm
  · exact hq.elim

theorem val_wp {P : Program} {o : Oper} {h h' : H} {K : Value → H → Prop} {r : Value} {a : Act} {w w' : World} {next : Act → World → Prop} {Q : Exit → Act → World → Prop}
    (hrun : (execOp a.eval o).run P w = .ok (.value r) w') (hk : K r h') (hs' : Sub h' w') (hm : Stp h w h' w')
    (hK : ∀ v h' w', K v h' → Sub h' w' → Stp h w h' w' → next (a.put o.dst v) w') : o.wp P a w next Q := by
  unfold Oper.wp
  rw [hrun, Oper.upon_value]
  exact hK _ _ _ hk hs' hm

theorem args_map {fr : Fr} {a : Act} (hf : FrOK fr a) {l : Array Operand} {vs : List Value} (h : evalL fr l.toList = some vs) : l.map a.eval = ⟨vs⟩ := by
  apply Array.ext'
  rw [Array.toList_map, hf.evalL h]

theorem parts_map {fr : Fr} {a : Act} (hf : FrOK fr a) {l : Array (Nat × Operand)} {vs : List (Nat × Value)} (h : zipE fr l.toList = some vs) :
    (l.map fun (i, x) => (i, a.eval x)) = ⟨vs⟩ := by
  apply Array.ext'
  rw [Array.toList_map, ← hf.zipE h]

theorem opt_sound {P : Program} {o : Oper} {fr : Fr} {h : H} {K X : Value → H → Prop} {a : Act} {w : World} {next : Act → World → Prop} {Q : Exit → Act → World → Prop}
    (ho : opt P o fr h K X) (hf : FrOK fr a) (hs : Sub h w)
    (hK : ∀ v h' w', K v h' → Sub h' w' → Stp h w h' w' → next (a.put o.dst v) w')
    (hX : ∀ v h' w', X v h' → Sub h' w' → Stp h w h' w' → Q (.panic [⟨v, false, false⟩]) a w') : o.wp P a w next Q := by
  unfold opt at ho
  have pur : ∀ r, K r h → (execOp a.eval o).run P w = .ok (.value r) w → o.wp P a w next Q := fun r hk hr => val_wp hr hk hs (Stp.refl h w) hK
  split at ho
  · rename_i x hop
    obtain ⟨v, hv, hk⟩ := on_spec ho
    exact pur v hk (by simp [execOp, hop, hf.evalO hv])
  · rename_i x hop
    obtain ⟨v, hv, hk⟩ := on_spec ho
    exact pur v hk (by simp [execOp, hop, hf.evalO hv])
  · rename_i c x y hop
    obtain ⟨v, hv, ho⟩ := on_spec ho
    obtain ⟨b, e, ho⟩ := boolP_spec ho
    subst e
    cases b with
    | true => obtain ⟨v, hv2, hk⟩ := on_spec ho; exact pur v hk (by simp [execOp, hop, hf.evalO hv, hf.evalO hv2, asBool])
    | false => obtain ⟨v, hv2, hk⟩ := on_spec ho; exact pur v hk (by simp [execOp, hop, hf.evalO hv, hf.evalO hv2, asBool])
  · rename_i e hop
    obtain ⟨r, h', w', hk, hr, hs', hm⟩ := allocP_run ho w hs
    exact val_wp (by simp [execOp, hop, hr]) hk hs' hm hK
  · rename_i e x hop
    obtain ⟨v, hv, ho⟩ := on_spec ho
    obtain ⟨r, h', w', hk, hr, hs', hm⟩ := boxP_run (P := P) ho w hs
    exact val_wp (by simp [execOp, hop, hf.evalO hv, hr]) hk hs' hm hK
  · rename_i t parts hop
    obtain ⟨ps, hv, ho⟩ := on_spec ho
    obtain ⟨r, hk, hr⟩ := buildP_run ho
    exact pur r hk (by simp only [execOp, hop, parts_map hf hv, Sem.run_bind, hr w, Result.andThen_ok, Sem.run_pure])
  · rename_i t n parts hop
    obtain ⟨ps, hv, ho⟩ := on_spec ho
    obtain ⟨r, h', w', hk, hr, hs', hm⟩ := buildSliceP_run ho w hs
    exact val_wp (by simp only [execOp, hop, parts_map hf hv, Sem.run_bind, hr, Result.andThen_ok, Sem.run_pure]) hk hs' hm hK
  · rename_i t x hop
    obtain ⟨v, hv, ho⟩ := on_spec ho
    obtain ⟨r, hk, hr⟩ := loadP_run ho
    exact pur r hk (by simp [execOp, hop, hf.evalO hv, hr w hs])
  · rename_i t x y hop
    obtain ⟨v, hv, ho⟩ := on_spec ho
    obtain ⟨u, hu, ho⟩ := on_spec ho
    obtain ⟨h', hk, hr⟩ := storeP_run ho
    obtain ⟨w', hr, hs', hm⟩ := hr w hs
    unfold Oper.wp
    rw [show (execOp a.eval o).run P w = .ok .skip w' by simp [execOp, hop, hf.evalO hv, hf.evalO hu, hr], Oper.upon_skip]
    exact hK _ _ _ hk hs' hm
  · rename_i x hop
    obtain ⟨v, hv, ho⟩ := on_spec ho
    obtain ⟨p, e, hk⟩ := ptrP_spec ho
    subst e
    exact pur _ hk (by simp [execOp, hop, hf.evalO hv])
  · rename_i op t x y yt hop
    obtain ⟨v, hv, ho⟩ := on_spec ho
    obtain ⟨u, hu, ho⟩ := on_spec ho
    obtain ⟨r, hk, hr⟩ := binP_run ho
    have hr' := hr w hs
    simp only [Sem.run_bind] at hr'
    exact pur r hk (by simp only [execOp, hop, hf.evalO hv, hf.evalO hu, Sem.run_bind, hr', Result.andThen_ok, Sem.run_pure])
  · rename_i op t x hop
    obtain ⟨v, hv, ho⟩ := on_spec ho
    obtain ⟨r, hk, hr⟩ := unP_run ho
    exact pur r hk (by simp [execOp, hop, hf.evalO hv, hr w hs])
  · rename_i s d x hop
    obtain ⟨v, hv, ho⟩ := on_spec ho
    obtain ⟨r, hk, hr⟩ := convP_run ho
    exact pur r hk (by simp [execOp, hop, hf.evalO hv, hr w hs])
  · rename_i t x hop
    obtain ⟨v, hv, ho⟩ := on_spec ho
    obtain ⟨r, hk, hr⟩ := mkIfcP_run ho
    exact pur r hk (by simp [execOp, hop, hf.evalO hv, hr w])
  · rename_i fn first cap hop
    obtain ⟨vf, hv, ho⟩ := on_spec ho
    obtain ⟨vc, hu, hk⟩ := on_spec ho
    exact pur _ hk (by simp [execOp, hop, args_map hf hv, args_map hf hu, Instr.makeFunc])
  · rename_i t l c hop
    obtain ⟨v, hv, ho⟩ := on_spec ho
    obtain ⟨u, hu, ho⟩ := on_spec ho
    obtain ⟨r, h', w', hk, hr, hs', hm⟩ := makeSliceP_run ho w hs
    exact val_wp (by simp [execOp, hop, hf.evalO hv, hf.evalO hu, hr]) hk hs' hm hK
  · rename_i t x lo hi mx hop
    obtain ⟨v, hv, ho⟩ := on_spec ho
    obtain ⟨l, hl, ho⟩ := on_spec ho
    obtain ⟨hi', hh, ho⟩ := on_spec ho
    obtain ⟨m, hm, ho⟩ := on_spec ho
    obtain ⟨r, hk, hr⟩ := sliceP_run ho
    exact pur r hk (by simp only [execOp, hop, hf.evalO hv, hf.optE hl, hf.optE hh, hf.optE hm, Sem.run_bind, hr w hs, Result.andThen_ok, Sem.run_pure])
  · rename_i t x f hop
    obtain ⟨v, hv, ho⟩ := on_spec ho
    obtain ⟨r, hk, hr⟩ := fieldAddrP_run ho
    exact pur r hk (by simp [execOp, hop, hf.evalO hv, hr w])
  · rename_i t x f hop
    obtain ⟨v, hv, ho⟩ := on_spec ho
    obtain ⟨r, hk, hr⟩ := fieldP_run ho
    exact pur r hk (by simp [execOp, hop, hf.evalO hv, hr w])
  · rename_i t x ix hop
    obtain ⟨v, hv, ho⟩ := on_spec ho
    obtain ⟨u, hu, ho⟩ := on_spec ho
    obtain ⟨r, hk, hr⟩ := idxAddrP_run ho
    exact pur r hk (by simp [execOp, hop, hf.evalO hv, hf.evalO hu, hr w])
  · rename_i t x ix hop
    obtain ⟨v, hv, ho⟩ := on_spec ho
    obtain ⟨u, hu, ho⟩ := on_spec ho
    obtain ⟨r, hk, hr⟩ := indexP_run ho
    exact pur r hk (by simp [execOp, hop, hf.evalO hv, hf.evalO hu, hr w hs])
  · rename_i x ix hop
    obtain ⟨v, hv, ho⟩ := on_spec ho
    obtain ⟨vs, e, ho⟩ := tupP_spec ho
    obtain ⟨u, hu, hk⟩ := on_spec ho
    subst e
    exact pur u hk (by simp [execOp, hop, hf.evalO hv, Instr.extract, hu])
  · rename_i x t as ok hop
    obtain ⟨v, hv, ho⟩ := on_spec ho
    obtain ⟨r, hr, hk⟩ := ho
    exact pur r hk (by simp [execOp, hop, hf.evalO hv, hr w hs])
  · rename_i c hop
    obtain ⟨args, hargs, ho⟩ := on_spec ho
    have ham := args_map hf hargs
    split at ho
    · rename_i b hcal
      obtain ⟨r, h', w', hk, hr, hs', hm⟩ := builtinP_run (ty := o.type) (cs := c.args.map fun | .const _ => true | _ => false) ho w hs
      refine val_wp ?_ hk hs' hm hK
      simp only [execOp, hop, resolve, hcal, ham, pure_bind, invoke]
      exact hr
    · rename_i f hcal
      obtain ⟨v, hv, ho⟩ := on_spec ho
      obtain ⟨fid, first, cap, e, ht⟩ := funP_spec ho
      subst e
      refine T_wp ht hs ?_ hK hX
      simp only [execOp, hop, resolve, hcal, ham, hf.evalO hv, Deferred.ofValue, pure_bind, invoke]
      rw [run_callFunc ht.1]
      congr 2
      apply Array.ext'
      simp
    · rename_i r name hcal
      obtain ⟨v, hv, ho⟩ := on_spec ho
      obtain ⟨t, u, e, f, rv, hmeth, ht⟩ := methP_spec ho
      subst e
      refine T_wp ht hs ?_ hK hX
      have hx : (#[Value.iface t u] ++ (⟨args⟩ : Array Value)).extract 1 (#[Value.iface t u] ++ (⟨args⟩ : Array Value)).size = ⟨args⟩ := by
        apply Array.ext'
        simp
      have h0 : (#[Value.iface t u] ++ (⟨args⟩ : Array Value))[0]? = some (Value.iface t u) := by simp
      simp only [execOp, hop, resolve, hcal, ham, hf.evalO hv, pure_bind, invoke, h0, hx, callMethod, Sem.run_bind, run_program, Result.andThen_ok, hmeth w hs]
      rw [run_callFunc ht.1]
      congr 2
      apply Array.ext'
      simp
  · rename_i x hop
    obtain ⟨v, hv, ho⟩ := on_spec ho
    obtain ⟨t, u, e, ho⟩ := panP_spec ho
    subst e
    unfold Oper.wp
    rw [show (execOp a.eval o).run P w = .halt (.panic (.iface t u)) w by simp [execOp, hop, hf.evalO hv, Instr.panic], Oper.upon_panic]
    exact hX _ _ _ ho hs (Stp.refl h w)
  · exact ho.elim

end Go.Proofs.Ytgbmkfifjijoiaa
