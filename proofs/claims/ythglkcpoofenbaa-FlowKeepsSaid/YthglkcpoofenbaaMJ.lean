import Derived.Recover
import Derived.Laws.StructEq
import Derived.Test.YthglkcpoofenbaaMI
/-! A deferred closure that recovers: its first region. -/
namespace Go.Proofs.Ythglkcpoofenbaa
open Go
set_option linter.unusedVariables false
set_option linter.unusedSimpArgs false

/-- A region whose first operation is recover; the rest is walked as any region. -/
theorem wpS_region_recover {P : Program} {id : Nat} {ops : Array Oper} {Q : Exit → Act → List Frame → World → Prop} {a : Act} {cs cs' : List Frame} {w : World} {o : Oper} {rest : List Nat} {v : Value}
    (ho : ops[0]? = some o) (hl : List.range ops.size = 0 :: rest) (hw : Region.wanted o (yielded ops a.tmps) = true) (hrun : (execOp a.eval o).run P w = .ok .recover w)
    (hrec : recoverD cs = some (v, cs') ∨ (recoverD cs = none ∧ v = .nilIface ∧ cs' = cs)) (h : wpOps P ops (fun e a' w' => Q e a' cs' w') rest (a.put o.dst v) w) :
    (Code.region id ops false).wpS P Q a cs w := by
  intro b k hb hro
  obtain ⟨e, a', w', hq, harr⟩ := wp_ops rest _ w h b k cs'
  have hg := stepG_op (P := P) (b := b) (k := k) (cs := cs) (w := w) (rest := rest) ho hw
  have hfin : ∀ v, (b.at a (.inRegion ops (0 :: rest) :: k)).finish v = b.at (a.put o.dst v) (.inRegion ops rest :: k) := by
    intro v; rw [Frame.finish_at, ho]; rfl
  have hk : (b.at a (.inRegion ops (0 :: rest) :: k)).kind = .deferred := hb
  have htr := tryRecover_deferred hk cs
  have st : step P (lone (b.at a (.inRegion ops (0 :: rest) :: k)) cs w) = .next (lone (b.at (a.put o.dst v) (.inRegion ops rest :: k)) cs' w) := by
    refine step_lone_go ?_
    rw [hg, ← hfin]
    simp only [Frame.at] at htr ⊢
    rcases hrec with hrec | ⟨hrec, rfl, rfl⟩
    · simp [stepG.apply, hrun, htr, hrec]
    · simp [stepG.apply, hrun, htr, hrec]
  refine ⟨e, a', cs', w', hq, .of_steps (.head step_region ?_) harr⟩
  rw [hl]
  exact .one st

end Go.Proofs.Ythglkcpoofenbaa

/-! look: what gives up is caught. -/
namespace Go.Proofs.Ythglkcpoofenbaa
open Go
set_option linter.unusedVariables false
set_option linter.unusedSimpArgs false
set_option maxRecDepth 100000

def firstOps : Code → Array Oper
  | .seq (.region _ ops _) _ => ops
  | _ => #[]
def restOf : Code → Code
  | .seq _ y => y
  | _ => .skip
def opAt (ops : Array Oper) (i : Nat) : Oper := match ops[i]? with
  | some o => o
  | none => default
/-- What is given up with. -/
abbrev gvV (c : Int) : Value := .iface 89 (.agg ⟨[.int .i64 c]⟩)

theorem ta_give (c : Int) (w : World) : (Instr.typeAssert (gvV c) 20 89 true).run Try.prog w = .ok (.tuple ⟨[.agg ⟨[.int .i64 c]⟩, .bool true]⟩) w := by kernel_rfl
theorem ta_nil (w : World) : (Instr.typeAssert .nilIface 20 89 true).run Try.prog w = .ok (.tuple ⟨[.agg ⟨[.int .i64 0]⟩, .bool false]⟩) w := by kernel_rfl

theorem f41_seq : bodyOf Try.f41 = .seq (.region 0 (firstOps (bodyOf Try.f41)) false) (restOf (bodyOf Try.f41)) := by kernel_rfl

/-- The rest of the closure's first region. -/
def B41 (v : Value) (h : H) (K : Fr → H → Prop) (b : Nat) : Prop :=
  runP Try.prog h (Instr.typeAssert v 20 89 true) fun v5 => tupP v5 fun vs => on (vs[0]?) fun v6 => tupP v5 fun vs => on (vs[1]?) fun v7 =>
    newP h (.cells ⟨[.int .i64 0]⟩ 89 (0, 0)) fun b1 h1 => aggP v6 fun ws => stN h1 (bk b1) ws 1 fun h2 => K [(2, v7), (1, .pointer (some (bk b1))), (7, v7), (6, v6), (3, v5), (5, v5), (4, v), (0, .pointer (some (bk b)))] h2
theorem E41 {v : Value} {h : H} {K : Fr → H → Prop} {X : Value → H → Prop} {b : Nat} (H0 : B41 v h K b) :
    rpt Try.prog (firstOps (bodyOf Try.f41)).toList (fun _ => []) [] [1, 2, 3, 4, 5, 6, 7] [(4, v), (0, .pointer (some (bk b)))] h K X := cast_of (by kernel_rfl) H0
theorem E41r {v7 : Bool} {h : H} {Q : Ex → Fr → H → Prop} {b b1 : Nat} {v5 v6 v : Value}
    (H0 : ifP v7 (ldI h ((bk b1).add 0) .i64 fun x => stC h (bk b) (.int .i64 x) fun h' => Q .normal [(10, .int .i64 x), (9, .pointer (some ((bk b1).add 0))), (8, .bool v7), (2, .bool v7), (1, .pointer (some (bk b1))), (7, .bool v7), (6, v6), (3, v5), (5, v5), (4, v), (0, .pointer (some (bk b)))] h')
      (Q .normal [(8, .bool v7), (2, .bool v7), (1, .pointer (some (bk b1))), (7, .bool v7), (6, v6), (3, v5), (5, v5), (4, v), (0, .pointer (some (bk b)))] h)) :
    cpt Try.prog 11 ⟨fun i => match i with
      | 1 => ⟨[0], fun _ => []⟩
      | _ => ⟨[0, 1, 2], fun _ => []⟩, fun _ => [], fun _ => none⟩ (restOf (bodyOf Try.f41)) [(2, .bool v7), (1, .pointer (some (bk b1))), (7, .bool v7), (6, v6), (3, v5), (5, v5), (4, v), (0, .pointer (some (bk b)))] h Q := cast_of (by kernel_rfl) H0

theorem sub_hput {h : H} {b : Nat} {o : Obj} {w : World} (hb : h b = none) (hs : Sub (hput h b o) w) : Sub h w := fun k x hk => hs k x (by
  unfold hput
  split
  · rename_i e; subst e; rw [hb] at hk; cases hk
  · exact hk)

/-- The closure, called while u is under way. -/
theorem f41_D {h0 h : H} {w0 w : World} {b : Nat} {x : Int} {u u' : FrameMode} {v : Value} (hB : Bl h b [.int .i64 x]) (hs : Sub h w)
    (hrec : ∀ (c₀ : Frame) (cs : List Frame), c₀.mode = u → recoverD (c₀ :: cs) = some (v, { c₀ with mode := u' } :: cs) ∨ (recoverD (c₀ :: cs) = none ∧ v = .nilIface ∧ u' = u))
    (y : Int) (hv : (v = gvV y) ∨ (v = .nilIface ∧ y = x)) :
    CallsD Try.prog 41 #[.pointer (some (bk b))] u w fun e q w' => e = .returned (.tuple ⟨[]⟩) ∧ q = u' ∧ ∃ h', Sub h' w' ∧ Stp h w h' w' ∧ Kp b h h' ∧ Bl h' b [.int .i64 y] := by
  refine callsD_of_wpS Try.func41 (c := bodyOf Try.f41) (by kernel_rfl) fun c₀ cs hu => ?_
  have hr := hrec c₀ cs hu
  obtain ⟨cs', hcs, hrec'⟩ : ∃ cs', cs' = { c₀ with mode := u' } :: cs ∧ (recoverD (c₀ :: cs) = some (v, cs') ∨ (recoverD (c₀ :: cs) = none ∧ v = .nilIface ∧ cs' = c₀ :: cs)) := by
    rcases hr with h | ⟨h1, h2, h3⟩
    · exact ⟨_, rfl, .inl h⟩
    · refine ⟨_, rfl, .inr ⟨h1, h2, ?_⟩⟩
      subst h3; subst hu; rfl
  rw [f41_seq]
  refine wpS_seq ?_
  refine wpS_region_recover (o := opAt (firstOps (bodyOf Try.f41)) 0) (rest := [1, 2, 3, 4, 5, 6, 7]) (v := v) (cs' := cs') (by kernel_rfl) (by kernel_rfl) (by kernel_rfl) (by kernel_rfl) hrec' ?_
  let a1 : Act := Act.put { tmps := #[.pointer (some (bk b))] ++ Array.replicate (Try.f41.ntmps - (#[.pointer (some (bk b))] : Array Value).size) undef, defers := [] } (some 4) v
  have ea : Act.put { tmps := #[.pointer (some (bk b))] ++ Array.replicate (Try.f41.ntmps - (#[.pointer (some (bk b))] : Array Value).size) undef, defers := [] } (opAt (firstOps (bodyOf Try.f41)) 0).dst v = a1 := by kernel_rfl
  rw [ea]
  have ha4 : a1.tmps[4]? = some v := by kernel_rfl
  have ha0 : a1.tmps[0]? = some (.pointer (some (bk b))) := by kernel_rfl
  have rel : Rel 11 [] h w (List.range 11) a1 [(4, v), (0, .pointer (some (bk b)))] h a1 w := by
    refine ⟨fun t q hq => ?_, hs, Stp.refl h w, by kernel_rfl, by kernel_rfl, fun _ _ => rfl⟩
    simp only [Fr.get] at hq
    cases e4 : Nat.beq 4 t with
    | true =>
      have := Nat.eq_of_beq_eq_true e4
      subst this
      rw [e4, cond_true] at hq
      rw [ha4]; exact hq
    | false =>
      rw [e4, cond_false] at hq
      cases e0 : Nat.beq 0 t with
      | true =>
        have := Nat.eq_of_beq_eq_true e0
        subst this
        rw [e0, cond_true] at hq
        rw [ha0]; exact hq
      | false => rw [e0, cond_false] at hq; cases hq
  obtain ⟨bl, z, hrpt, hz⟩ : ∃ (bl : Bool) (z : Int), (rpt Try.prog (firstOps (bodyOf Try.f41)).toList (fun _ => []) [] [1, 2, 3, 4, 5, 6, 7] [(4, v), (0, .pointer (some (bk b)))] h
      (fun f h2 => ∃ b1 v5 v6, Fr.le [(2, .bool bl), (1, .pointer (some (bk b1))), (7, .bool bl), (6, v6), (3, v5), (5, v5), (4, v), (0, .pointer (some (bk b)))] f ∧ Ext h h2 ∧ b1 ≠ b ∧ Bl h2 b1 [.int .i64 z]) (fun _ _ => False)) ∧
      ((bl = true ∧ z = y) ∨ (bl = false ∧ y = x)) := by
    have fresh : ∀ b1, h b1 = none → b1 ≠ b := by
      rintro b1 h1 rfl
      obtain ⟨e, h2⟩ := hB
      rw [h1] at h2; cases h2
    rcases hv with rfl | ⟨rfl, rfl⟩
    · refine ⟨true, y, E41 ⟨_, fun w _ => ta_give y w, ?_⟩, .inl ⟨rfl, rfl⟩⟩
      refine new_bl_st rfl rfl (by simp [Value.oneCell']) ?_
      intro b1 g hb1 x1 B1_
      exact ⟨b1, _, _, Fr.le.refl _, x1, fresh _ hb1, B1_⟩
    · refine ⟨false, 0, E41 ⟨_, fun w _ => ta_nil w, ?_⟩, .inr ⟨rfl, rfl⟩⟩
      refine new_bl_st rfl rfl (by simp [Value.oneCell']) ?_
      intro b1 g hb1 x1 B1_
      exact ⟨b1, _, _, Fr.le.refl _, x1, fresh _ hb1, B1_⟩
  have hasr : ∀ d, d < 11 → has d (List.range 11) = true := fun d hd => has_iff.2 (List.mem_range.2 hd)
  have hds : dstsOK 11 (firstOps (bodyOf Try.f41)).toList = true := by kernel_rfl
  refine list_sound (n := 11) (ds := []) (h0 := h) (w0 := w) (W := List.range 11) (a0 := a1) ?_ (fun o ho d hd => ⟨dstsOK_spec hds o ho d hd, hasr d (dstsOK_spec hds o ho d hd)⟩) (fun _ _ _ _ h _ => h.elim) ?_ _ _ _ _ _ _ hrpt rel
  · rintro f f' h _ hl ⟨b1, v5, v6, h1, h2, h3, h4⟩
    exact ⟨b1, v5, v6, h1.trans hl, h2, h3, h4⟩
  rintro f h2 a2 w2 ⟨b1, v5, v6, hle, x2, hne, Bz⟩ rel2
  show (restOf (bodyOf Try.f41)).wpS Try.prog _ a2 cs' w2
  refine wpS_of_wp ?_
  have rel2 := rel2.le hle
  have hB2 := hB.ext x2
  refine cpt_sound (n := 11) _ _ h2 _ (E41r (Q := fun e fr h3 => e = .normal ∧ Kp b h h3 ∧ Bl h3 b [.int .i64 y]) ?_) [] h w (List.range 11) a1 a2 w2 _ (fun t ht => hasr t ?_) rel2 ?_
  · refine ifP_of (fun hb => ?_) (fun hb => ?_)
    · rcases hz with ⟨_, rfl⟩ | ⟨h, _⟩
      · refine ⟨_, Bz.ld rfl, ?_⟩
        have := hB2.stC (i := 0) (x := .int .i64 z) (K := fun g => Ex.normal = Ex.normal ∧ Kp b h g ∧ Bl g b [.int .i64 z]) (by simp) fun g kp B => ⟨rfl, (x2.kp b).trans kp, B⟩
        rwa [add_zero'] at this
      · rw [h] at hb; cases hb
    · rcases hz with ⟨h, _⟩ | ⟨_, rfl⟩
      · rw [h] at hb; cases hb
      · exact ⟨rfl, x2.kp b, hB2⟩
  · have : ((writesOf (restOf (bodyOf Try.f41))).all fun t => Nat.blt t 11) = true := by kernel_rfl
    have := List.all_eq_true.1 this t ht
    simpa [Nat.blt_eq] using this
  · rintro e fr h3 a3 w3 ⟨rfl, kp, B3⟩ rel3
    refine ⟨rel3.defers, u', by rw [hcs], .tuple #[], results_none rfl _ _ _, rfl, rfl, h3, rel3.sub, rel3.same, kp, B3⟩

theorem f28_seq : bodyOf Try.f28 = .seq (.region 0 (firstOps (bodyOf Try.f28)) false) (.seq (.region 1 (firstOps (restOf (bodyOf Try.f28))) false) (restOf (restOf (bodyOf Try.f28)))) := by kernel_rfl
def A28 : An := ⟨fun i => match i with
  | 2 => ⟨[0, 1], fun _ => []⟩
  | _ => ⟨[0], fun _ => []⟩, fun _ => [], fun _ => none⟩
theorem E28a {h : H} {Q : Ex → Fr → H → Prop} {fv : Value} (H0 : newP h (.cells ⟨[.int .i64 0]⟩ 31 (0, 0)) fun b g => Q .normal [(2, .pointer (some (bk b))), (0, fv)] g) :
    cpt Try.prog 6 A28 (.region 0 (firstOps (bodyOf Try.f28)) false) [(0, fv)] h Q := cast_of (by kernel_rfl) H0
theorem E28b {h : H} {Q : Ex → Fr → H → Prop} {fid : FuncId} {caps : List Value} {b : Nat} {v3 : Value}
    (H0 : T Try.prog fid caps h (onRet Try.prog 0 (fun v g => stC g (bk b) (.int .i64 0) fun g' => Q .ret [(5, v), (4, .func (.func fid) ⟨[]⟩ ⟨caps⟩), (3, v3), (2, .pointer (some (bk b))), (0, .func (.func fid) ⟨[]⟩ ⟨caps⟩)] g') (fun v g => Q (.panic v) [] g))) :
    cpt Try.prog 6 A28 (restOf (restOf (bodyOf Try.f28))) [(3, v3), (2, .pointer (some (bk b))), (0, .func (.func fid) ⟨[]⟩ ⟨caps⟩)] h Q := cast_of (by kernel_rfl) H0

theorem wp_first {P : Program} {ops : Array Oper} {Q : Exit → Act → World → Prop} {a : Act} {w : World} {i : Nat} {rest : List Nat} {o : Oper} (ho : ops[i]? = some o) (hw : Region.wanted o (yielded ops a.tmps) = true)
    (h : o.wp P a w (wpOps P ops Q rest) Q) : wpOps P ops Q (i :: rest) a w := by
  show (match ops[i]? with
    | none => wpOps P ops Q rest a w
    | some o => if Region.wanted o (yielded ops a.tmps) then o.wp P a w (wpOps P ops Q rest) Q ∨ (o.asks P a w ∧ LetsOut Q) else wpOps P ops Q rest (a.put o.dst undef) w)
  rw [ho]
  dsimp only
  rw [if_pos hw]
  exact .inl h

theorem look_T {fid : FuncId} {caps : List Value} {h : H} {Q R : Res → H → Prop} (t : T Try.prog fid caps h Q)
    (k : ∀ r h1 h2, Q r h1 → Ext h1 h2 → (r = .ret (.tuple ⟨[]⟩) ∧ R (.ret (.int .i64 0)) h2) ∨ ∃ c, r = .pan (gvV c) ∧ R (.ret (.int .i64 c)) h2) :
    T Try.prog F.proof_look [.func (.func fid) ⟨[]⟩ ⟨caps⟩] h R := by
  refine ⟨⟨Try.f28, Try.func28, by kernel_rfl, by kernel_rfl⟩, fun w hw => ?_⟩
  refine calls_of_wp_defers Try.func28 (c := bodyOf Try.f28) (by kernel_rfl) ?_
  rw [f28_seq]
  have hasr : ∀ d, d < 6 → has d (List.range 6) = true := fun d hd => has_iff.2 (List.mem_range.2 hd)
  obtain ⟨a0, ha0⟩ : ∃ a0 : Act, a0 = { tmps := #[Value.func (.func fid) ⟨[]⟩ ⟨caps⟩] ++ Array.replicate (Try.f28.ntmps - (#[Value.func (.func fid) ⟨[]⟩ ⟨caps⟩] : Array Value).size) undef, defers := [] } := ⟨_, rfl⟩
  have hat : a0.tmps[0]? = some (.func (.func fid) ⟨[]⟩ ⟨caps⟩) := by rw [ha0]; kernel_rfl
  have hsz : a0.tmps.size = 6 := by rw [ha0]; kernel_rfl
  have hdf : a0.defers = [] := by rw [ha0]
  have goalA : (Code.seq (.region 0 (firstOps (bodyOf Try.f28)) false) (.seq (.region 1 (firstOps (restOf (bodyOf Try.f28))) false) (restOf (restOf (bodyOf Try.f28))))).wp Try.prog
      (bodyPostD Try.prog Try.f28 fun e w' => ∃ h', Sub h' w' ∧ Stp h w h' w' ∧ match e with
        | .returned v => R (.ret v) h'
        | .panicked [⟨v, false, false⟩] => R (.pan v) h'
        | _ => False) a0 w := by
    refine wp_seq ?_
    refine cpt_sound (n := 6) _ [(0, .func (.func fid) ⟨[]⟩ ⟨caps⟩)] h _ (E28a (Q := fun e fr g => e = .normal ∧ ∃ b, h b = none ∧ g = hput h b (.cells ⟨[.int .i64 0]⟩ 31 (0, 0)) ∧ fr = [(2, .pointer (some (bk b))), (0, .func (.func fid) ⟨[]⟩ ⟨caps⟩)]) fun b hb => ⟨rfl, b, hb, rfl, rfl⟩) [] h w (List.range 6) a0 a0 w _ (fun t ht => hasr t ?_) ?_ ?_
    · have : ((writesOf (.region 0 (firstOps (bodyOf Try.f28)) false)).all fun t => Nat.blt t 6) = true := by kernel_rfl
      have := List.all_eq_true.1 this t ht
      simpa [Nat.blt_eq] using this
    · refine ⟨fun t q hq => ?_, hw, Stp.refl h w, hsz, hdf, fun _ _ => rfl⟩
      simp only [Fr.get] at hq
      cases e0 : Nat.beq 0 t with
      | true =>
        have := Nat.eq_of_beq_eq_true e0
        subst this
        rw [e0, cond_true] at hq
        rw [hat]; exact hq
      | false => rw [e0, cond_false] at hq; cases hq
    rintro e fr g a1 w1 ⟨rfl, b, hb, rfl, rfl⟩ rel1
    refine wp_seq (wp_region ?_)
    have hr : List.range (firstOps (restOf (bodyOf Try.f28))).size = [0, 1] := by kernel_rfl
    rw [hr]
    have h2 : a1.tmps[2]? = some (.pointer (some (bk b))) := rel1.fr 2 _ rfl
    refine wp_first (o := opAt (firstOps (restOf (bodyOf Try.f28))) 0) (by kernel_rfl) (by kernel_rfl) ?_
    have ho : opt Try.prog (opAt (firstOps (restOf (bodyOf Try.f28))) 0) [(2, .pointer (some (bk b))), (0, .func (.func fid) ⟨[]⟩ ⟨caps⟩)] (hput h b (.cells ⟨[.int .i64 0]⟩ 31 (0, 0)))
        (fun v g => v = .func (.func 41) #[] #[.pointer (some (bk b))] ∧ g = hput h b (.cells ⟨[.int .i64 0]⟩ 31 (0, 0))) (fun _ _ => False) :=
      cast_of (A := opt Try.prog (opAt (firstOps (restOf (bodyOf Try.f28))) 0) [(2, .pointer (some (bk b))), (0, .func (.func fid) ⟨[]⟩ ⟨caps⟩)] (hput h b (.cells ⟨[.int .i64 0]⟩ 31 (0, 0)))
        (fun v g => v = .func (.func 41) #[] #[.pointer (some (bk b))] ∧ g = hput h b (.cells ⟨[.int .i64 0]⟩ 31 (0, 0))) (fun _ _ => False))
        (B := (Value.func (.func 41) ⟨[]⟩ ⟨[.pointer (some (bk b))]⟩ = .func (.func 41) #[] #[.pointer (some (bk b))] ∧ hput h b (.cells ⟨[.int .i64 0]⟩ 31 (0, 0)) = hput h b (.cells ⟨[.int .i64 0]⟩ 31 (0, 0)))) (by kernel_rfl) ⟨rfl, rfl⟩
    refine opt_sound ho rel1.fr rel1.sub ?_ (fun _ _ _ h => h.elim)
    rintro v3 g w2 ⟨rfl, rfl⟩ hs2 hst2
    generalize ha2 : a1.put (opAt (firstOps (restOf (bodyOf Try.f28))) 0).dst (.func (.func 41) #[] #[.pointer (some (bk b))]) = a2
    have hd3 : (opAt (firstOps (restOf (bodyOf Try.f28))) 0).dst = some 3 := by kernel_rfl
    have fr2 : FrOK [(3, .func (.func 41) #[] #[.pointer (some (bk b))]), (2, .pointer (some (bk b))), (0, .func (.func fid) ⟨[]⟩ ⟨caps⟩)] a2 := by
      rw [← ha2, hd3]
      exact rel1.fr.put (d := some 3) (fun t ht => by cases ht; rw [rel1.size]; omega) _
    have sz2 : a2.tmps.size = 6 := by rw [← ha2, size_put, rel1.size]
    have df2 : a2.defers = [] := by rw [← ha2, defers_put, rel1.defers]
    refine wp_first (o := opAt (firstOps (restOf (bodyOf Try.f28))) 1) (by kernel_rfl) (by kernel_rfl) ?_
    have h3 : a2.eval (.tmp 3) = .func (.func 41) #[] #[.pointer (some (bk b))] := by
      have := fr2 3 _ rfl
      simp [Act.eval, this]
    have hrun : (execOp a2.eval (opAt (firstOps (restOf (bodyOf Try.f28))) 1)).run Try.prog w2 = .ok (.defer { target := .fn (.func 41) #[.pointer (some (bk b))], args := #[] }) w2 := by
      have hop : (opAt (firstOps (restOf (bodyOf Try.f28))) 1).op = .defer { callee := .value (.tmp 3), args := #[], argTypes := #[] } := by kernel_rfl
      simp [execOp, hop, resolve, Deferred.ofValue, h3]
    unfold Oper.wp
    rw [hrun, Oper.upon_defer]
    have hd1 : (opAt (firstOps (restOf (bodyOf Try.f28))) 1).dst = none := by kernel_rfl
    rw [hd1]
    generalize ha3 : (Act.put { a2 with defers := { target := .fn (.func 41) #[.pointer (some (bk b))], args := #[] } :: a2.defers } none undef) = a3
    have tm3 : a3.tmps = a2.tmps := by rw [← ha3]; rfl
    have df3 : a3.defers = [{ target := .fn (.func 41) #[.pointer (some (bk b))], args := #[] }] := by rw [← ha3, defers_put, df2]
    have fr3 : FrOK [(3, .func (.func 41) #[] #[.pointer (some (bk b))]), (2, .pointer (some (bk b))), (0, .func (.func fid) ⟨[]⟩ ⟨caps⟩)] a3 := fun t v hv => by rw [tm3]; exact fr2 t v hv
    show (restOf (restOf (bodyOf Try.f28))).wp Try.prog _ a3 w2
    -- the call, and what is stored behind it
    let Q2 : Ex → Fr → H → Prop := fun e fr g => ∃ r h1, Q r h1 ∧ h1 b = none ∧ Ext h1 g ∧ Bl g b [.int .i64 0] ∧ ((e = .ret ∧ r = .ret (.tuple ⟨[]⟩)) ∨ ∃ c, e = .panic (gvV c) ∧ r = .pan (gvV c))
    have tyU : ∀ (v : Value) (K : Value → Prop), tyV Try.prog 0 v K = (v = .tuple ⟨[]⟩ ∧ K (.tuple ⟨[]⟩)) := fun v K => by kernel_rfl
    have hE : cpt Try.prog 6 A28 (restOf (restOf (bodyOf Try.f28))) [(3, .func (.func 41) #[] #[.pointer (some (bk b))]), (2, .pointer (some (bk b))), (0, .func (.func fid) ⟨[]⟩ ⟨caps⟩)] (hput h b (.cells ⟨[.int .i64 0]⟩ 31 (0, 0))) Q2 := by
      refine E28b ((t.frame hb (.cells ⟨[.int .i64 0]⟩ 31 (0, 0))).mono ?_)
      rintro r _ ⟨h1, h1b, rfl, hq⟩
      have x1 : Ext h1 (hput h1 b (.cells ⟨[.int .i64 0]⟩ 31 (0, 0))) := Ext.put h1b _
      have B1_ : Bl (hput h1 b (.cells ⟨[.int .i64 0]⟩ 31 (0, 0))) b [.int .i64 0] := ⟨31, by simp [hput]⟩
      rcases k r h1 h1 hq (Ext.refl _) with ⟨rfl, _⟩ | ⟨c, rfl, _⟩
      · unfold onRet
        dsimp only
        rw [tyU]
        refine ⟨rfl, ?_⟩
        have := B1_.stC (i := 0) (x := .int .i64 0) (K := fun g' => Q2 .ret [(5, .tuple ⟨[]⟩), (4, .func (.func fid) ⟨[]⟩ ⟨caps⟩), (3, .func (.func 41) #[] #[.pointer (some (bk b))]), (2, .pointer (some (bk b))), (0, .func (.func fid) ⟨[]⟩ ⟨caps⟩)] g') (by simp)
          fun g kp B => ⟨_, h1, hq, h1b, x1.of_kp kp h1b, B, .inl ⟨rfl, rfl⟩⟩
        rwa [add_zero'] at this
      · exact ⟨_, h1, hq, h1b, x1, B1_, .inr ⟨c, rfl, rfl⟩⟩
    refine cpt_sound (n := 6) _ _ _ _ hE [{ target := .fn (.func 41) #[.pointer (some (bk b))], args := #[] }] h w (writesOf (restOf (restOf (bodyOf Try.f28)))) a3 a3 w2 _ (fun t ht => has_iff.2 ht)
      ⟨fr3, hs2, rel1.same.trans hst2, by rw [tm3]; exact sz2, df3, fun _ _ => rfl⟩ ?_
    rintro e fr g' a4 w4 ⟨r, h1, hq, h1b, x1, B4, hcase⟩ rel4
    have h4 : a4.tmps[2]? = some (.pointer (some (bk b))) := by
      rw [rel4.keep 2 (by kernel_rfl)]
      exact fr3 2 _ rfl
    -- the end, behind the closure
    have fin : ∀ (h5 : H) (w5 : World) (y : Int), Sub h5 w5 → Stp g' w4 h5 w5 → Kp b g' h5 → Bl h5 b [.int .i64 y] → (∀ h2, Ext h1 h2 → R (.ret (.int .i64 y)) h2) →
        Leaves Try.prog Try.f28 a4.tmps (fun e w' => ∃ h', Sub h' w' ∧ Stp h w h' w' ∧ match e with
          | .returned v => R (.ret v) h'
          | .panicked [⟨v, false, false⟩] => R (.pan v) h'
          | _ => False) [] .returning w5 := by
      intro h5 w5 y s5 st5 k5 B5 hR
      have hres : resP Try.prog [(2, .pointer (some (bk b)))] h5 Try.f28.results.toList (fun v => v = .int .i64 y) :=
        cast_of (A := resP Try.prog [(2, .pointer (some (bk b)))] h5 Try.f28.results.toList (fun v => v = .int .i64 y)) (B := ldI h5 (bk b) .i64 fun x => Value.int .i64 x = .int .i64 y) (by kernel_rfl)
          ⟨y, by have := B5.ld (i := 0) rfl; rwa [add_zero'] at this, rfl⟩
      obtain ⟨v, rfl, hr⟩ := resP_run (fn := Try.f28) (a := a4) (fun t v hv => by
        simp only [Fr.get] at hv
        cases e0 : Nat.beq 2 t with
        | true =>
          have := Nat.eq_of_beq_eq_true e0
          subst this
          rw [e0, cond_true] at hv
          rw [h4]; exact hv
        | false => rw [e0, cond_false] at hv; cases hv) hres
      exact ⟨_, hr w5 s5, h5, s5, rel4.same.trans st5, hR h5 (x1.of_kp k5 h1b)⟩
    rcases hcase with ⟨rfl, rfl⟩ | ⟨c, rfl, rfl⟩
    · show Leaves _ _ _ _ a4.defers .returning w4
      rw [rel4.defers]
      refine leaves_cons (f := 41) (args := #[.pointer (some (bk b))]) (by simp) (by kernel_rfl) ?_
      refine (f41_D (h0 := h) (w0 := w) (u := .returning) (u' := .returning) (v := .nilIface) B4 rel4.sub (fun c₀ cs hu => .inr ⟨by simp [recoverD, hu], rfl, rfl⟩) 0 (.inr ⟨rfl, rfl⟩)).mono ?_
      rintro e q w5 ⟨rfl, rfl, h5, s5, st5, k5, B5⟩
      refine fin h5 w5 0 s5 st5 k5 B5 fun h2 x2 => ?_
      rcases k _ h1 h2 hq x2 with ⟨_, hR⟩ | ⟨c, hc, _⟩
      · exact hR
      · cases hc
    · show Leaves _ _ _ _ a4.defers (.panicking [⟨gvV c, false, false⟩]) w4
      rw [rel4.defers]
      refine leaves_cons (f := 41) (args := #[.pointer (some (bk b))]) (by simp) (by kernel_rfl) ?_
      refine (f41_D (h0 := h) (w0 := w) (u := .panicking [⟨gvV c, false, false⟩]) (u' := .panicking [⟨gvV c, true, false⟩]) (v := gvV c) B4 rel4.sub (fun c₀ cs hu => .inl (by simp [recoverD, hu])) c (.inl rfl)).mono ?_
      rintro e q w5 ⟨rfl, rfl, h5, s5, st5, k5, B5⟩
      have hset : settle (.panicking [⟨gvV c, true, false⟩]) = .returning := by simp [settle]
      show Leaves _ _ _ _ [] (settle (.panicking [⟨gvV c, true, false⟩])) w5
      rw [hset]
      refine fin h5 w5 c s5 st5 k5 B5 fun h2 x2 => ?_
      rcases k _ h1 h2 hq x2 with ⟨hc, _⟩ | ⟨c', hc, hR⟩
      · cases hc
      · cases hc; exact hR
  rw [ha0] at goalA
  exact goalA

end Go.Proofs.Ythglkcpoofenbaa

/-! proof.Max. -/
namespace Go.Proofs.Ythglkcpoofenbaa
open Go
set_option linter.unusedVariables false
set_option linter.unusedSimpArgs false

section
variable {h : H} {w : List Value} {n m : Nat} {es : Nat → Ed} {on : Value} {f : Nat → Int}
theorem need_T (h : H) (ok : Bool) (c : Int) : T Try.prog F.proof_need [.bool ok, .int .i64 c] h fun r h' => h = h' ∧ ((ok = true ∧ r = .ret (.tuple ⟨[]⟩)) ∨ (ok = false ∧ r = .pan (gvV c))) := by
  refine E_proof_need ?_
  unfold B_proof_need
  cases ok
  · exact ⟨rfl, .inr ⟨rfl, rfl⟩⟩
  · exact ⟨rfl, .inl ⟨rfl, rfl⟩⟩
theorem need_ok {h : H} {ok : Bool} {c : Int} (e : ok = true) : T Try.prog F.proof_need [.bool ok, .int .i64 c] h fun r h' => r = .ret (.tuple ⟨[]⟩) ∧ h = h' := by
  refine (need_T h ok c).mono ?_
  rintro r _ ⟨rfl, ⟨_, rfl⟩ | ⟨h, _⟩⟩
  · exact ⟨rfl, rfl⟩
  · rw [e] at h; cases h
theorem need_no {h : H} {ok : Bool} {c : Int} (e : ok = false) : T Try.prog F.proof_need [.bool ok, .int .i64 c] h fun r h' => r = .pan (gvV c) ∧ h = h' := by
  refine (need_T h ok c).mono ?_
  rintro r _ ⟨rfl, ⟨h, _⟩ | ⟨_, rfl⟩⟩
  · rw [e] at h; cases h
  · exact ⟨rfl, rfl⟩
theorem right_T {n : Int} (G : GrA h w n m es) : T Try.prog F.proof_right [.agg ⟨w⟩] h fun r h' => Ext h h' ∧ (((faultG n m es).1 = 0 ∧ r = .ret (.tuple ⟨[]⟩)) ∨ ((faultG n m es).1 ≠ 0 ∧ r = .pan (gvV (faultG n m es).1))) := by
  refine E_proof_right ?_
  unfold B_proof_right
  refine new_bl ?_
  intro b1 q hb1 x B
  refine B.ldN G.one.1 ?_
  refine (Check_T (G.ext x)).mono ?_
  rintro _ q5 ⟨rfl, x5⟩
  refine rt_ret ⟨_, rfl, rfl, new_bl_st rfl rfl (by simp [Value.oneCell']) ?_⟩
  intro b7 q9 hb7 x7 B7
  have xh := (x.trans' x5).trans' x7
  refine ⟨_, B7.ld rfl, _, B7.ld rfl, ?_⟩
  by_cases e : (faultG n m es).1 = 0
  · refine (need_ok (by simpa using e)).mono ?_
    rintro _ _ ⟨rfl, rfl⟩
    exact rt_ret ⟨rfl, xh, .inl ⟨e, rfl⟩⟩
  · refine (need_no (by simpa using e)).mono ?_
    rintro _ _ ⟨rfl, rfl⟩
    exact ⟨xh, .inr ⟨e, rfl⟩⟩

theorem carried_T (G : GrA h w n m es) (g : Gw n m es) (S : RS h on (ints m f)) (hb : ∀ i, i < m → 0 ≤ f i ∧ f i ≤ cpE es i) :
    T Try.prog F.proof_carried [.agg ⟨w⟩, on] h fun r h' => ∃ v, r = .ret v ∧ Ext h h' ∧ RS h' v (ints n (OutF m (frE es) (toE es) f)) := by
  refine E_proof_carried ?_
  unfold B_proof_carried
  obtain ⟨gv, rfl, Gv⟩ := G.gs
  have m1 := g.m1
  have n1 := g.n1
  refine new_bl ?_
  intro b1 q hb1 x B
  have S := S.ext x
  have Gv := Gv.ext x
  refine S.len (ints_length _ _) fun _ _ => ⟨_, B.ld rfl, Gv.len fun _ _ => ?_⟩
  refine (need_ok (by simp)).mono ?_
  rintro _ _ ⟨rfl, rfl⟩
  refine rt_ret ⟨rfl, _, B.ld rfl, mk_ints 1 (by omega) (by omega) ?_⟩
  intro b13 q14 hb13 x14 S1_
  rw [Int.toNat_natCast]
  have bs : Bs q (own1 (fun _ => 0) b13 1) q14 := Bs.start.new x14 hb13
  have k1 := S1_ fun _ => 0
  generalize own1 (fun _ => 0) b13 1 = own at *
  clear S1_
  refine ⟨_, (B.ext x14).ld rfl, (Gv.ext x14).len fun _ _ => ?_⟩
  let I : (Int × Unit) → H → Nat → Prop := fun p q2 k => ∃ (j : Nat) (own : Own), p.1 = j ∧ j ≤ m ∧ k = m - j ∧ Bs q own q2 ∧ S1 own q2 1 (slV b13 n) (ints n (OutF j (frE es) (toE es) f))
  refine ⟨fun p q => ∃ k, I p q k, rk I, rk_wf I, ⟨_, 0, own, rfl, by omega, rfl, bs, k1⟩, ?_⟩
  clear bs k1
  intro p q2 hI
  obtain ⟨j, own, e1, hj, hk, bs, k1⟩ := mu_spec hI
  generalize hkk : mu I ((p, ()), q2) = km at *
  change p = (j : Int) at e1
  subst e1
  have hlt : j < m → m - (j + 1) < mu I (((j : Int), ()), q2) := fun h => by rw [hkk, hk]; omega
  clear hI
  refine ifP_of (fun h1 => ?_) (fun h1 => ?_)
  rotate_left
  · have : j = m := by have := of_decide_eq_false h1; omega
    subst this
    exact ⟨_, rfl, x.trans' bs.ext, RS.of_S1 k1⟩
  have hjm : j < m := by have := of_decide_eq_true h1; omega
  have hbj := hb j hjm
  have hcj : cpE es j ≤ 1048576 := (g.c j hjm).2
  have ef := g.fr j hjm
  have et := g.to j hjm
  refine (Gv.ext bs.ext).e4 hjm (new_bl_st rfl rfl (ed_one _) ?_)
  intro b25 q27 hb25 x27 B25
  have k25 : B1 (own1 own b25 9) q27 9 b25 (es j).vs := B1.new B25
  have bs := bs.nw (j := 9) x27 hb25
  have k1 := k1.nw (j := 9) x27 hb25
  have S2 := S.ext bs.ext
  generalize own1 own b25 9 = own at *
  refine ⟨fun _ q => q27 = q, ?_, ?_⟩
  · refine S2.rdI hjm (ifP_of (fun _ => ?_) (fun h => by have := of_decide_eq_false h; omega))
    refine S2.rdI hjm ⟨_, B25.ed.2.2.1, ?_⟩
    refine (need_ok (by have : f j ≤ (es j).c := hbj.2; simpa using this)).mono ?_
    rintro _ _ ⟨rfl, rfl⟩
    exact rt_ret ⟨rfl, rfl⟩
  rintro _ rfl
  have bd : ∀ v, -(2 * 1048576 * (j : Int)) ≤ OutF j (frE es) (toE es) f v ∧ OutF j (frE es) (toE es) f v ≤ 2 * 1048576 * (j : Int) := fun v => OutF_bd (fun i hi => by have := hb i (by omega); have := (g.c i (by omega)).2; unfold cpE at *; omega) (by omega)
  have b1_ := bd (frE es j)
  have b2_ := bd (toE es j)
  refine S2.at (ints_get hjm) fun a43 ha43 => ⟨_, B25.ed.1, ?_⟩
  rw [ef.1]
  refine k1.rdI ef.2 ⟨_, ha43, k1.setI ef.2 ?_⟩
  intro q49 F k1
  have ew : IntKind.i64.wrap (OutF j (frE es) (toE es) f (frE es j) + f j) = OutF j (frE es) (toE es) f (frE es j) + f j := w64_in (by omega) (by omega)
  rw [ew] at k1
  have bs := bs.fm F (by simp <;> omega)
  have k25 := k25.fm F (by simp <;> omega)
  have S3 := S.ext bs.ext
  refine S3.at (ints_get hjm) fun a50 ha50 => ⟨_, k25.bl.ed.2.1, ?_⟩
  rw [et.1]
  refine k1.rdI et.2 ⟨_, ha50, k1.setI et.2 ?_⟩
  intro q56 F k1
  have bs := bs.fm F (by simp <;> omega)
  have hu : ∀ v, upd (OutF j (frE es) (toE es) f) (frE es j) (OutF j (frE es) (toE es) f (frE es j) + f j) v = OutF j (frE es) (toE es) f v + (if frE es j = v then f j else 0) := fun v => by
    unfold upd
    by_cases e : v = frE es j
    · subst e; rw [if_pos rfl, if_pos rfl]
    · rw [if_neg e, if_neg (fun h => e h.symm)]; omega
  have ew2 : IntKind.i64.wrap (upd (OutF j (frE es) (toE es) f) (frE es j) (OutF j (frE es) (toE es) f (frE es j) + f j) (toE es j) - f j) = OutF j (frE es) (toE es) f (toE es j) + (if frE es j = toE es j then f j else 0) - f j := by
    rw [hu]
    exact w64_in (by split <;> omega) (by split <;> omega)
  rw [ew2] at k1
  have he : ints n (upd (upd (OutF j (frE es) (toE es) f) (frE es j) (OutF j (frE es) (toE es) f (frE es j) + f j)) (toE es j) (OutF j (frE es) (toE es) f (toE es j) + (if frE es j = toE es j then f j else 0) - f j)) = ints n (OutF (j + 1) (frE es) (toE es) f) := ints_ext fun v hv => by
    have e1 : OutF (j + 1) (frE es) (toE es) f v = OutF j (frE es) (toE es) f v + ((if frE es j = v then f j else 0) - (if toE es j = v then f j else 0)) := rfl
    rw [e1]
    show (if v = toE es j then _ else upd (OutF j (frE es) (toE es) f) (frE es j) (OutF j (frE es) (toE es) f (frE es j) + f j) v) = _
    by_cases e : v = toE es j
    · subst e; rw [if_pos rfl, if_pos rfl]; omega
    · rw [if_neg e, hu, if_neg (fun h : toE es j = v => e h.symm)]; omega
  rw [he] at k1
  rw [i64_inc (by omega)]
  exact mu_next (I := I) (k := m - (j + 1)) ⟨j + 1, own, rfl, hjm, rfl, bs, k1⟩ (hlt hjm)

theorem across_T {side : Value} {sd : Nat → Bool} (G : GrA h w n m es) (g : Gw n m es) (S : RS h side (bools n sd)) :
    T Try.prog F.proof_across [.agg ⟨w⟩, side] h fun r h' => r = .ret (.int .i64 (cutB m (frE es) (toE es) (cpE es) sd)) ∧ Ext h h' := by
  refine E_proof_across ?_
  unfold B_proof_across
  obtain ⟨gv, rfl, Gv⟩ := G.gs
  have m1 := g.m1
  have n1 := g.n1
  refine new_bl ?_
  intro b1 q hb1 x B
  have S := S.ext x
  have Gv := Gv.ext x
  refine S.len (bools_length _ _) fun _ _ => ⟨_, B.ld rfl, ?_⟩
  refine (need_ok (by simp)).mono ?_
  rintro _ _ ⟨rfl, rfl⟩
  refine rt_ret ⟨rfl, _, B.ld rfl, Gv.len fun _ _ => ?_⟩
  let I : (Int × Int × Unit) → H → Nat → Prop := fun p q2 k => ∃ j : Nat, p.2.1 = j ∧ j ≤ m ∧ k = m - j ∧ p.1 = cutB j (frE es) (toE es) (cpE es) sd ∧ Ext q q2
  refine ⟨fun p q => ∃ k, I p q k, rk I, rk_wf I, ⟨_, 0, rfl, by omega, rfl, rfl, Ext.refl _⟩, ?_⟩
  intro o p q2 hI
  obtain ⟨j, e1, hj, hk, ho, x2⟩ := mu_spec hI
  generalize hkk : mu I ((o, p, ()), q2) = km at *
  change p = (j : Int) at e1
  change o = cutB j (frE es) (toE es) (cpE es) sd at ho
  subst e1 ho
  have hlt : j < m → m - (j + 1) < mu I ((cutB j (frE es) (toE es) (cpE es) sd, (j : Int), ()), q2) := fun h => by rw [hkk, hk]; omega
  clear hI
  refine ifP_of (fun h1 => ?_) (fun h1 => ?_)
  rotate_left
  · have : j = m := by have := of_decide_eq_false h1; omega
    subst this
    exact ⟨rfl, x.trans' x2⟩
  have hjm : j < m := by have := of_decide_eq_true h1; omega
  have bj := cutB_bd (fr := frE es) (to := toE es) (cap := cpE es) (sd := sd) (j := j) fun i hi => g.c i (by omega)
  have ef := g.fr j hjm
  have et := g.to j hjm
  have hcj := g.c j hjm
  have eS : cutB (j + 1) (frE es) (toE es) (cpE es) sd = cutB j (frE es) (toE es) (cpE es) sd + (if sd (frE es j) = true ∧ sd (toE es j) = false then cpE es j else 0) := rfl
  refine (Gv.ext x2).e4 hjm (new_bl_st rfl rfl (ed_one _) ?_)
  intro b25 q27 hb25 x27 B25
  have x3 := x2.trans' x27
  have S2 := S.ext x3
  have go : ∀ x, x = cutB (j + 1) (frE es) (toE es) (cpE es) sd → (∃ k, I (x, ((j + 1 : Nat) : Int), ()) q27 k) ∧ rk I ((x, ((j + 1 : Nat) : Int), ()), q27) ((cutB j (frE es) (toE es) (cpE es) sd, (j : Int), ()), q2) := by
    rintro x rfl
    exact mu_next (I := I) (k := m - (j + 1)) ⟨j + 1, rfl, hjm, rfl, rfl, x3⟩ (hlt hjm)
  refine ⟨_, B25.ed.1, ?_⟩
  rw [ef.1, i64_inc (by omega)]
  refine S2.rdB ef.2 ?_
  refine ifP_of (fun h2 => ?_) (fun h2 => go _ ?_)
  · refine ⟨_, B25.ed.2.1, ?_⟩
    rw [et.1]
    refine S2.rdB et.2 ?_
    refine ifP_of (fun h3 => ?_) (fun h3 => go _ ?_)
    · have h3 : sd (toE es j) = false := by simpa using h3
      refine ⟨_, B25.ed.2.2.1, go _ ?_⟩
      rw [eS, if_pos ⟨h2, h3⟩]
      have hcj2 : 0 ≤ cpE es j ∧ cpE es j ≤ 1048576 := hcj
      show IntKind.i64.wrap (cutB j (frE es) (toE es) (cpE es) sd + cpE es j) = _
      exact w64_in (by omega) (by omega)
    · rw [eS, if_neg (fun h => by rw [h.2] at h3; cases h3)]; omega
  · rw [eS, if_neg (fun h => by rw [h2] at h; cases h.1)]; omega
end

end Go.Proofs.Ythglkcpoofenbaa

/-! proof.Max, caught. -/
namespace Go.Proofs.Ythglkcpoofenbaa
open Go
set_option linter.unusedVariables false
set_option linter.unusedSimpArgs false

theorem cut_eq {n m : Nat} {es : Nat → Ed} (g : Gd n m es) {s t : Nat} {f : Nat → Int} {sd : Nat → Bool} (hs : s < n) (M : MaxP n m (frE es) (toE es) (cpE es) s t f)
    (hsd : ∀ v, v < n → (sd v = true ↔ Rch (RsS m (frE es) (toE es) (cpE es) f) s v)) : cutB m (frE es) (toE es) (cpE es) sd = OutF m (frE es) (toE es) f s := by
  rw [M.cut g.w.ends hs]
  refine sumN_congr fun l hl => ?_
  have e1 := hsd _ (g.fr hl).2
  have e2 := hsd _ (g.to hl).2
  by_cases c1 : sd (frE es l) = true ∧ sd (toE es l) = false
  · rw [if_pos c1, if_pos]
    refine ⟨e1.1 c1.1, fun h => ?_⟩
    have := e2.2 h
    rw [c1.2] at this; cases this
  · rw [if_neg c1, if_neg]
    rintro ⟨r1, r2⟩
    refine c1 ⟨e1.2 r1, ?_⟩
    cases e : sd (toE es l)
    · rfl
    · exact absurd (e2.1 e) r2

section
variable {h : H} {w : List Value} {m : Nat} {es : Nat → Ed}

theorem stC0 {b : Nat} {x : Value} {K : H → Prop} (H0 : stC h ((bk b).add 0) x K) : stC h (bk b) x K := by rwa [add_zero'] at H0
theorem ldI0 {b : Nat} {K : Int → Prop} (H0 : ldI h ((bk b).add 0) .i64 K) : ldI h (bk b) .i64 K := by rwa [add_zero'] at H0
theorem Max_c1_ok {n : Nat} {b1 b3 b5 : Nat} {on side : Value} {f : Nat → Int} {sd : Nat → Bool} {s t : Nat} (G : GrA h w n m es) (g : Gd n m es) (A1 : Bl h b1 w) (A3 : Bl h b3 (flV s t on side)) (A5 : Bl h b5 [.int .i64 0])
    (S : RS h on (ints m f)) (P : RS h side (bools n sd)) (hs : s < n) (ht : t < n) (hst : s ≠ t)
    (M : MaxP n m (frE es) (toE es) (cpE es) s t f) (hsd : ∀ v, v < n → (sd v = true ↔ Rch (RsS m (frE es) (toE es) (cpE es) f) s v)) :
    T Try.prog F.proof_Max_c1 [.pointer (some (bk b1)), .pointer (some (bk b3)), .pointer (some (bk b5))] h
      fun r h' => r = .ret (.tuple ⟨[]⟩) ∧ Bl h' b5 [.int .i64 (OutF m (frE es) (toE es) f s)] ∧ ∃ q, Ext h q ∧ Kp b5 q h' := by
  refine E_proof_Max_c1 ?_
  unfold B_proof_Max_c1
  have n1 := g.n1
  refine ptrP_mk (A1.ldN G.one.1 ?_)
  refine (right_T G).mono ?_
  rintro _ q4 ⟨x4, ⟨_, rfl⟩ | ⟨h, _⟩⟩
  rotate_left
  · exact absurd (Gd.iff.2 g) h
  have C1 := A1.ext x4
  have C3 := A3.ext x4
  refine rt_ret ⟨rfl, fun _ q => q4 = q, ?_, ?_⟩
  · refine ptrP_mk ⟨_, C3.ld rfl, ifP_of (fun _ => ?_) (fun h => by have := of_decide_eq_false h; omega)⟩
    refine ptrP_mk ⟨_, C3.ld rfl, ptrP_mk ?_⟩
    obtain ⟨gv, rfl, Gv⟩ := G.gs
    refine ⟨_, C1.ld rfl, ifP_of (fun _ => ?_) (fun h => by have := of_decide_eq_false h; omega)⟩
    refine ptrP_mk ⟨_, C3.ld rfl, ifP_of (fun _ => ?_) (fun h => by have := of_decide_eq_false h; omega)⟩
    refine ptrP_mk ⟨_, C3.ld rfl, ptrP_mk ⟨_, C1.ld rfl, ?_⟩⟩
    refine (need_ok (by simp; omega)).mono ?_
    rintro _ _ ⟨rfl, rfl⟩
    exact rt_ret ⟨rfl, rfl⟩
  rintro _ rfl
  refine ptrP_mk ⟨_, C3.ld rfl, ptrP_mk ⟨_, C3.ld rfl, ?_⟩⟩
  refine (need_ok (by simp; omega)).mono ?_
  rintro _ _ ⟨rfl, rfl⟩
  refine rt_ret ⟨rfl, ptrP_mk (C1.ldN G.one.1 (ptrP_mk ⟨_, C3.ld rfl, ?_⟩))⟩
  refine (carried_T (G.ext x4) g.w (S.ext x4) M.fl.cp).mono ?_
  rintro _ q46 ⟨v45, rfl, x46, S45⟩
  have x5 := x4.trans' x46
  have C1 := A1.ext x5
  have C3 := A3.ext x5
  refine rt_ret (ptrP_mk (C1.ldN G.one.1 (ptrP_mk ⟨_, C3.ld rfl, ?_⟩)))
  refine (across_T (G.ext x5) g.w (P.ext x5)).mono ?_
  rintro _ q52 ⟨rfl, x52⟩
  have x6 := x5.trans' x52
  have C1 := A1.ext x6
  have C3 := A3.ext x6
  have C5 := A5.ext x6
  have P := P.ext x6
  have S45 := S45.ext x52
  rw [cut_eq g hs M hsd]
  refine rt_ret ⟨_, rfl, S45.len (ints_length _ _) fun _ _ => ?_⟩
  let I : (Int × Unit) → H → Nat → Prop := fun p q2 k => ∃ j : Nat, p.1 = j ∧ j ≤ n ∧ k = n - j ∧ q52 = q2
  refine ⟨fun p q => ∃ k, I p q k, rk I, rk_wf I, ⟨_, 0, rfl, by omega, rfl, rfl⟩, ?_⟩
  intro p q2 hI
  obtain ⟨j, e1, hj, hk, e2⟩ := mu_spec hI
  generalize hkk : mu I ((p, ()), q2) = km at *
  change p = (j : Int) at e1
  subst e1 e2
  have hlt : j < n → n - (j + 1) < mu I (((j : Int), ()), q52) := fun h => by rw [hkk, hk]; omega
  clear hI
  refine ifP_of (fun h1 => ?_) (fun h1 => ?_)
  · have hjn : j < n := by have := of_decide_eq_true h1; omega
    have fin : (rt (fun v3 h4 => v3 = .tuple ⟨[]⟩ ∧ (∃ k, I ((IntKind.i64.wrap ((j : Int) + 1)), ()) h4 k) ∧ rk I ((IntKind.i64.wrap ((j : Int) + 1), ()), h4) (((j : Int), ()), q52)) fun v4 h5 => (fun (r : Res) h' => r = .ret (.tuple ⟨[]⟩) ∧ Bl h' b5 [.int .i64 (OutF m (frE es) (toE es) f s)] ∧ ∃ q, Ext h q ∧ Kp b5 q h') (Res.pan v4) h5) (Res.ret (.tuple ⟨[]⟩)) q52 := by
      refine rt_ret ⟨rfl, ?_⟩
      rw [i64_inc (by omega)]
      exact mu_next (I := I) (k := n - (j + 1)) ⟨j + 1, rfl, hjn, rfl, rfl⟩ (hlt hjn)
    refine S45.rdI hjn (ifP_of (fun _ => ?_) (fun h2 => ?_))
    · refine (need_ok rfl).mono ?_
      rintro _ _ ⟨rfl, rfl⟩
      exact fin
    · refine ptrP_mk ⟨_, C3.ld rfl, ifP_of (fun _ => ?_) (fun h3 => ?_)⟩
      · refine (need_ok rfl).mono ?_
        rintro _ _ ⟨rfl, rfl⟩
        exact fin
      · refine ptrP_mk ⟨_, C3.ld rfl, ?_⟩
        have h2 := of_decide_eq_false h2
        have h3 := of_decide_eq_false h3
        have : j = t := Classical.byContradiction fun h4 => h2 (M.fl.cons j hjn (by omega) h4)
        refine (need_ok (by simp; omega)).mono ?_
        rintro _ _ ⟨rfl, rfl⟩
        exact fin
  refine ptrP_mk ⟨_, C3.ld rfl, ptrP_mk ⟨_, C3.ld rfl, P.rdB hs ?_⟩⟩
  refine ifP_of (fun _ => ?_) (fun h => by rw [(hsd s hs).2 .refl] at h; cases h)
  refine ptrP_mk ⟨_, C3.ld rfl, ptrP_mk ⟨_, C3.ld rfl, P.rdB ht ?_⟩⟩
  refine ifP_of (fun _ => ?_) (fun h => absurd ((hsd t ht).1 (by simpa using h)) M.nr)
  refine ptrP_mk ⟨_, C3.ld rfl, S45.rdI hs ?_⟩
  refine (need_ok (by simp)).mono ?_
  rintro _ _ ⟨rfl, rfl⟩
  refine rt_ret ⟨rfl, ptrP_mk ?_⟩
  have := C5.stC (i := 0) (x := .int .i64 (OutF m (frE es) (toE es) f s)) (K := fun h' => Res.ret (.tuple ⟨[]⟩) = .ret (.tuple ⟨[]⟩) ∧ Bl h' b5 [.int .i64 (OutF m (frE es) (toE es) f s)] ∧ ∃ q, Ext h q ∧ Kp b5 q h')
    (by simp) fun g' kp B => ⟨rfl, B, _, x6, kp⟩
  rwa [add_zero'] at this

theorem Max_c1_no {n : Int} {b1 b3 b5 : Nat} (G : GrA h w n m es) (A1 : Bl h b1 w) (A3 : Bl h b3 flZ) :
    T Try.prog F.proof_Max_c1 [.pointer (some (bk b1)), .pointer (some (bk b3)), .pointer (some (bk b5))] h
      fun r h' => (∃ c, r = .pan (gvV c)) ∧ Ext h h' := by
  refine E_proof_Max_c1 ?_
  unfold B_proof_Max_c1
  refine ptrP_mk (A1.ldN G.one.1 ?_)
  refine (right_T G).mono ?_
  rintro _ q4 ⟨x4, ⟨_, rfl⟩ | ⟨_, rfl⟩⟩
  rotate_left
  · exact ⟨⟨_, rfl⟩, x4⟩
  have C1 := A1.ext x4
  have C3 := A3.ext x4
  refine rt_ret ⟨rfl, fun _ q => q4 = q, ?_, ?_⟩
  · refine ptrP_mk ⟨_, C3.ld rfl, ifP_of (fun _ => ?_) (fun h => by simp at h)⟩
    refine ptrP_mk ⟨_, C3.ld rfl, ptrP_mk ?_⟩
    obtain ⟨gv, rfl, Gv⟩ := G.gs
    refine ⟨_, C1.ld rfl, ifP_of (fun h1 => ?_) (fun h => ?_)⟩
    · refine ptrP_mk ⟨_, C3.ld rfl, ifP_of (fun _ => ?_) (fun h => by simp at h)⟩
      refine ptrP_mk ⟨_, C3.ld rfl, ptrP_mk ⟨_, C1.ld rfl, ?_⟩⟩
      refine (need_ok h1).mono ?_
      rintro _ _ ⟨rfl, rfl⟩
      exact rt_ret ⟨rfl, rfl⟩
    · refine (need_no rfl).mono ?_
      rintro _ _ ⟨rfl, rfl⟩
      exact ⟨⟨_, rfl⟩, x4⟩
  rintro _ rfl
  refine ptrP_mk ⟨_, C3.ld rfl, ptrP_mk ⟨_, C3.ld rfl, ?_⟩⟩
  refine (need_no (by simp)).mono ?_
  rintro _ _ ⟨rfl, rfl⟩
  exact ⟨⟨_, rfl⟩, x4⟩

theorem proofMax_ok {n : Nat} {on side : Value} {f : Nat → Int} {sd : Nat → Bool} {s t : Nat} (G : GrA h w n m es) (g : Gd n m es)
    (S : RS h on (ints m f)) (P : RS h side (bools n sd)) (hs : s < n) (ht : t < n) (hst : s ≠ t)
    (M : MaxP n m (frE es) (toE es) (cpE es) s t f) (hsd : ∀ v, v < n → (sd v = true ↔ Rch (RsS m (frE es) (toE es) (cpE es) f) s v)) :
    T Try.prog F.proof_Max [.agg ⟨w⟩, .agg ⟨flV s t on side⟩] h fun r h' => r = .ret (.tuple ⟨[.int .i64 (OutF m (frE es) (toE es) f s), .int .i64 0]⟩) ∧ Ext h h' := by
  refine E_proof_Max ?_
  unfold B_proof_Max
  refine new_bl ?_
  intro b1 q2 hb1 x1 A1
  refine new_bl ?_
  intro b3 q4 hb3 x3 A3
  have A1 := A1.ext x3
  have x13 := x1.trans' x3
  refine new_bl ?_
  intro b5 q6 hb5 x5 A5
  have hb5h := x13.new hb5
  refine stC0 (A5.stC (by simp) fun q7 kp A5 => ?_)
  have x47 := x5.of_kp kp hb5
  have xh := x13.trans' x47
  refine look_T (Max_c1_ok (G.ext xh) g (A1.ext x47) (A3.ext x47) A5 (S.ext xh) (P.ext xh) hs ht hst M hsd) ?_
  rintro r h1 h2 ⟨rfl, B5, q, x, kp2⟩ x2
  exact .inl ⟨rfl, rt_ret ⟨_, rfl, ldI0 ⟨_, (B5.ext x2).ld rfl, rfl, ((xh.trans' x).of_kp kp2 hb5h).trans' x2⟩⟩⟩

theorem proofMax_no {n : Int} (G : GrA h w n m es) :
    T Try.prog F.proof_Max [.agg ⟨w⟩, .agg ⟨flZ⟩] h fun r h' => (∃ x j : Int, r = .ret (.tuple ⟨[.int .i64 x, .int .i64 j]⟩)) ∧ Ext h h' := by
  refine E_proof_Max ?_
  unfold B_proof_Max
  refine new_bl ?_
  intro b1 q2 hb1 x1 A1
  refine new_bl ?_
  intro b3 q4 hb3 x3 A3
  have A1 := A1.ext x3
  have x13 := x1.trans' x3
  refine new_bl ?_
  intro b5 q6 hb5 x5 A5
  have hb5h := x13.new hb5
  refine stC0 (A5.stC (by simp) fun q7 kp A5 => ?_)
  have x47 := x5.of_kp kp hb5
  have xh := x13.trans' x47
  refine look_T (Max_c1_no (G.ext xh) (A1.ext x47) (A3.ext x47)) ?_
  rintro r h1 h2 ⟨⟨c, rfl⟩, x⟩ x2
  have x72 := x.trans' x2
  exact .inr ⟨c, rfl, rt_ret ⟨_, rfl, ldI0 ⟨_, (A5.ext x72).ld rfl, ⟨_, _, rfl⟩, xh.trans' x72⟩⟩⟩
end

end Go.Proofs.Ythglkcpoofenbaa

/-! FlowProved. -/
namespace Go.Proofs.Ythglkcpoofenbaa
open Go
set_option linter.unusedVariables false
set_option linter.unusedSimpArgs false

theorem RS.nil0 {h : H} : RS h (.slice none 0 0) [] := ⟨none, 0, rfl, fun j x hj => by simp at hj⟩

section
variable {h : H} {w : List Value}
theorem FlowProved_T {n : Int} {m : Nat} {es : Nat → Ed} (G : GrA h w n m es) (s t : Int) :
    T Try.prog F.compasslaw13_FlowProved [.agg ⟨w⟩, .agg ⟨[.int .i64 s, .int .i64 t]⟩] h fun r h' => r = .ret (.bool true) ∧ Ext h h' := by
  refine E_compasslaw13_FlowProved ?_
  unfold B_compasslaw13_FlowProved
  refine new_bl ?_
  intro b1 q2 hb1 x1 B1_
  refine new_bl ?_
  intro b3 q4 hb3 x3 B3
  refine awake_T.mono ?_
  rintro _ q6 ⟨rfl, x6⟩
  refine rt_ret ⟨_, rfl, ifP_of (fun h => by cases h) (fun _ => ?_)⟩
  have x16 := (x1.trans' x3).trans' x6
  have B1_ := (B1_.ext x3).ext x6
  have B3 := B3.ext x6
  have G := G.ext x16
  refine B1_.ldN G.one.1 (end0 B3 (end1 B3 ?_))
  have hwk : ∀ k : Int, 1 ≤ k → k ≤ 3 → wrong13 n m es s t k = endsC n m es s t := fun k h1 h2 => by
    unfold wrong13
    rw [if_pos (show 1 ≤ k ∧ k ≤ 3 from ⟨h1, h2⟩)]
    split
    · rename_i e; rw [e]
    · rfl
  by_cases hw : endsC n m es s t = 0
  rotate_left
  · refine (Solve_T G s t 1).mono ?_
    rintro _ q14 hA
    obtain ⟨rfl, x14⟩ := hA.err (by rw [hwk 1 (by omega) (by omega)]; exact hw)
    rw [hwk 1 (by omega) (by omega)]
    refine rt_ret ⟨_, rfl, _, _, rfl, new_bl_st rfl rfl (by simp [Value.oneCell']) ?_⟩
    intro b18 q20 hb18 x18 B18
    have x26 := x14.trans' x18
    let I : (Int × Unit) → H → Nat → Prop := fun p q z => ∃ j : Nat, p.1 = j ∧ 2 ≤ j ∧ j ≤ 4 ∧ z = 4 - j ∧ Ext q20 q
    refine ⟨fun p q => ∃ k, I p q k, rk I, rk_wf I, ⟨_, 2, rfl, by omega, by omega, rfl, Ext.refl _⟩, ?_⟩
    intro p q hI
    obtain ⟨j, e1, hj1, hj, hk2, xq⟩ := mu_spec hI
    generalize hkk : mu I ((p, ()), q) = km at *
    change p = (j : Int) at e1
    subst e1
    have hlt : j < 4 → 4 - (j + 1) < mu I (((j : Int), ()), q) := fun h => by rw [hkk, hk2]; omega
    clear hI
    have x2q := x26.trans' xq
    have G := G.ext x2q
    have B1_ := B1_.ext x2q
    have B3 := B3.ext x2q
    have B18 := B18.ext xq
    refine ifP_of (fun h1 => ?_) (fun h1 => ?_)
    rotate_left
    · refine B1_.ldN G.one.1 (B18.ldN rfl ?_)
      refine (proofMax_no G).mono ?_
      rintro _ q60 ⟨⟨x, y, rfl⟩, x60⟩
      refine rt_ret ⟨_, _, rfl, ifP_of (fun _ => ⟨rfl, (x16.trans' x2q).trans' x60⟩) (fun h => absurd (by simpa using h) hw)⟩
    have hj3 : j < 4 := by have := of_decide_eq_true h1; omega
    refine B1_.ldN G.one.1 (end0 B3 (end1 B3 ?_))
    refine (Solve_T G s t j).mono ?_
    rintro _ q31 hA
    obtain ⟨rfl, x31⟩ := hA.err (by rw [hwk j (by omega) (by omega)]; exact hw)
    rw [hwk j (by omega) (by omega)]
    refine rt_ret ⟨_, rfl, _, _, rfl, new_bl_st rfl rfl (by simp [Value.oneCell']) ?_⟩
    intro b35 q37 hb35 x35 B35
    have x7 := x31.trans' x35
    refine ⟨fun _ q => Ext q37 q, ?_, ?_⟩
    · refine ifP_of (fun h => by simp at h) (fun _ => ?_)
      refine ifP_of (fun h => by simp at h) (fun _ => ?_)
      refine ⟨_, (B18.ext x7).ld rfl, _, B35.ld rfl, ?_⟩
      refine (bools_R (k := 0) (f := fun _ => false) (g := fun _ => false) RS.nil0 RS.nil0 (fun i hi => by omega) (by omega)).mono ?_
      rintro _ _ ⟨rfl, rfl⟩
      exact rt_ret ⟨_, rfl, ifP_of (fun h => by cases h) (fun _ => Ext.refl _)⟩
    intro q39 x39
    have x8 := x7.trans' x39
    refine (B1_.ext x8).ldN G.one.1 ((B35.ext x39).ldN rfl ?_)
    refine (proofMax_no (G.ext x8)).mono ?_
    rintro _ q60 ⟨⟨x, y, rfl⟩, x60⟩
    refine rt_ret ⟨_, _, rfl, ifP_of (fun h => absurd (by simpa using h) hw) (fun _ => ?_)⟩
    rw [i64_inc (by omega)]
    exact mu_next (I := I) (k := 4 - (j + 1)) ⟨j + 1, rfl, by omega, hj3, rfl, (xq.trans' x8).trans' x60⟩ (hlt hj3)
  -- solved
  refine (Solve_T G s t 1).mono ?_
  rintro _ q14 hA
  rcases hA with ⟨x14, ⟨h, _⟩ | ⟨_, n', s', t', c1, c2, f, sd, rfl, rfl, rfl, hs, ht, hst, g, rfl, S⟩⟩
  · exact absurd ((hwk 1 (by omega) (by omega)).trans hw) h
  refine rt_ret ⟨_, rfl, _, _, rfl, new_bl_st rfl rfl (by simp [Value.oneCell']) ?_⟩
  intro b18 q20 hb18 x18 B18
  have x26 := x14.trans' x18
  have So := (RS.of_sl S.s1).ext x18
  have Sd := (RS.of_sl S.s2).ext x18
  let I : (Int × Unit) → H → Nat → Prop := fun p q z => ∃ j : Nat, p.1 = j ∧ 2 ≤ j ∧ j ≤ 4 ∧ z = 4 - j ∧ Ext q20 q
  refine ⟨fun p q => ∃ k, I p q k, rk I, rk_wf I, ⟨_, 2, rfl, by omega, by omega, rfl, Ext.refl _⟩, ?_⟩
  intro p q hI
  obtain ⟨j, e1, hj1, hj, hk2, xq⟩ := mu_spec hI
  generalize hkk : mu I ((p, ()), q) = km at *
  change p = (j : Int) at e1
  subst e1
  have hlt : j < 4 → 4 - (j + 1) < mu I (((j : Int), ()), q) := fun h => by rw [hkk, hk2]; omega
  clear hI
  have x2q := x26.trans' xq
  have G := G.ext x2q
  have B1_ := B1_.ext x2q
  have B3 := B3.ext x2q
  have B18 := B18.ext xq
  refine ifP_of (fun h1 => ?_) (fun h1 => ?_)
  rotate_left
  · refine B1_.ldN G.one.1 (B18.ldN rfl ?_)
    refine (proofMax_ok G g (So.ext xq) (Sd.ext xq) hs ht hst S.mx S.sd).mono ?_
    rintro _ q60 ⟨rfl, x60⟩
    refine rt_ret ⟨_, _, rfl, ifP_of (fun h => by simp at h) (fun _ => ifP_of (fun _ => ⟨by simp, (x16.trans' x2q).trans' x60⟩) (fun h => by simp at h))⟩
  have hj3 : j < 4 := by have := of_decide_eq_true h1; omega
  refine B1_.ldN G.one.1 (end0 B3 (end1 B3 ?_))
  refine (Solve_T G s' t' j).mono ?_
  rintro _ q31 hA
  obtain ⟨d1, d2, f2, sd2, rfl, S2, x31⟩ := hA.ok (by rw [hwk j (by omega) (by omega)]; exact hw)
  obtain ⟨u1, u2⟩ := S.mx.uniq S2.mx g.ends hs
  refine rt_ret ⟨_, rfl, _, _, rfl, new_bl_st rfl rfl (by simp [Value.oneCell']) ?_⟩
  intro b35 q37 hb35 x35 B35
  have x7 := x31.trans' x35
  have So2 := (RS.of_sl S2.s1).ext x35
  have Sd2 := (RS.of_sl S2.s2).ext x35
  refine ⟨fun _ q => Ext q37 q, ?_, ?_⟩
  · refine ifP_of (fun h => by simp [u1] at h) (fun _ => ?_)
    refine ifP_of (fun h => by simp at h) (fun _ => ?_)
    refine ⟨_, (B18.ext x7).ld rfl, _, B35.ld rfl, ?_⟩
    refine (bools_R ((Sd.ext xq).ext x7) Sd2 (fun i hi => ?_) (by have := g.n1; omega)).mono ?_
    · have e1 := S.sd i hi
      have e2 := S2.sd i hi
      have e3 := u2 i
      cases h1 : sd i <;> cases h2 : sd2 i <;> simp_all
    rintro _ _ ⟨rfl, rfl⟩
    exact rt_ret ⟨_, rfl, ifP_of (fun h => by cases h) (fun _ => Ext.refl _)⟩
  intro q39 x39
  have x8 := x7.trans' x39
  refine (B1_.ext x8).ldN G.one.1 ((B35.ext x39).ldN rfl ?_)
  refine (proofMax_ok (G.ext x8) g (So2.ext x39) (Sd2.ext x39) hs ht hst S2.mx S2.sd).mono ?_
  rintro _ q60 ⟨rfl, x60⟩
  refine rt_ret ⟨_, _, rfl, ifP_of (fun _ => ?_) (fun h => by simp at h)⟩
  refine ifP_of (fun h => by simp [u1] at h) (fun _ => ?_)
  refine ifP_of (fun h => by simp at h) (fun _ => ?_)
  rw [i64_inc (by omega)]
  exact mu_next (I := I) (k := 4 - (j + 1)) ⟨j + 1, rfl, by omega, hj3, rfl, (xq.trans' x8).trans' x60⟩ (hlt hj3)
end

end Go.Proofs.Ythglkcpoofenbaa

/-! Same; what a slice has behind its end. -/
namespace Go.Proofs.Ythglkcpoofenbaa
open Go
set_option linter.unusedVariables false
set_option linter.unusedSimpArgs false
set_option maxRecDepth 100000

theorem boolP_mk {b : Bool} {K : Bool → Prop} (k : K b) : boolP (.bool b) K := k
theorem eqFields_refl {P : Program} {d : Nat} {xs : Array Value} {w : World} : ∀ {fs : List Field}, (∀ f ∈ fs, ∃ k k' v, P.underlying f.type = some (.int k') ∧ (part f.type xs f.offset).run P w = .ok (.int k v) w) →
    (Op.eqFields (d + 1) xs xs fs).run P w = .ok true w
  | [], _ => by simp [Op.eqFields]
  | f :: fs, H => by
    obtain ⟨k, k', v, h1, h2⟩ := H f (by simp)
    have ih := eqFields_refl (d := d) (fs := fs) fun f hf => H f (by simp [hf])
    unfold Op.eqFields
    split
    · rw [Sem.run_bind, h2, Result.andThen_ok, Sem.run_bind, h2, Result.andThen_ok, Sem.run_bind, run_equalIn_int w d _ k k' v v h1, Result.andThen_ok]
      simp [ih]
    · exact ih
noncomputable def fld (i : Nat) : Field := (Try.prog.fieldsOf 44).toList[i]!
theorem fld_all : (Try.prog.fieldsOf 44).toList = [fld 0, fld 1, fld 2, fld 3] := by kernel_rfl
theorem ed_same (e : Ed) (x y : Operand) (w : World) : (do eqGuard .neq 44 x y (.agg ⟨e.vs⟩) (.agg ⟨e.vs⟩); binOp .neq 44 (.agg ⟨e.vs⟩) (.agg ⟨e.vs⟩)).run Try.prog w = .ok (.bool false) w := by
  rw [Sem.run_bind, run_eqGuard_agg w _ _ _ _ _ _ (by kernel_rfl), Result.andThen_ok, run_neq_struct, run_equalIn_agg w 9999 44 _ _ (by kernel_rfl) (by kernel_rfl), fld_all,
    eqFields_refl (d := 9998)]
  · rfl
  · intro f hf
    simp only [List.mem_cons, List.mem_nil_iff, or_false] at hf
    rcases hf with rfl | rfl | rfl | rfl
    · exact ⟨.i64, .i64, e.f, by kernel_rfl, by kernel_rfl⟩
    · exact ⟨.i64, .i64, e.t, by kernel_rfl, by kernel_rfl⟩
    · exact ⟨.i64, .i64, e.c, by kernel_rfl, by kernel_rfl⟩
    · exact ⟨.i64, .i64, e.k, by kernel_rfl, by kernel_rfl⟩

section
variable {h : H} {w w2 : List Value} {n : Int} {m : Nat} {es : Nat → Ed}
theorem Same_R (G : GrA h w n m es) (G2 : GrA h w2 n m es) (hm : m ≤ 4398046511104) :
    T Try.prog F.compassref03_Same [.agg ⟨w⟩, .agg ⟨w2⟩] h fun r h' => r = .ret (.bool true) ∧ Ext h h' := by
  refine E_compassref03_Same ?_
  unfold B_compassref03_Same
  obtain ⟨gv, rfl, Gv⟩ := G.gs
  obtain ⟨gv2, rfl, Gv2⟩ := G2.gs
  refine new_bl ?_
  intro b1 q2 hb1 x1 B1_
  refine new_bl ?_
  intro b3 q4 hb3 x3 B3
  have B1_ := B1_.ext x3
  have xh := x1.trans' x3
  have Gv := Gv.ext xh
  have Gv2 := Gv2.ext xh
  refine ⟨_, B1_.ld rfl, _, B3.ld rfl, ifP_of (fun h => by simp at h) (fun _ => ?_)⟩
  refine ⟨_, B1_.ld rfl, Gv.len fun _ _ => ⟨_, B3.ld rfl, Gv2.len fun _ _ => ifP_of (fun h => by simp at h) (fun _ => ?_)⟩⟩
  let I : (Int × Unit) → H → Nat → Prop := fun p q z => ∃ j : Nat, p.1 = j ∧ j ≤ m ∧ z = m - j ∧ q4 = q
  refine ⟨fun p q => ∃ k, I p q k, rk I, rk_wf I, ⟨_, 0, rfl, by omega, rfl, rfl⟩, ?_⟩
  intro p q hI
  obtain ⟨j, e1, hj, hk2, e2⟩ := mu_spec hI
  generalize hkk : mu I ((p, ()), q) = km at *
  change p = (j : Int) at e1
  subst e1 e2
  have hlt : j < m → m - (j + 1) < mu I (((j : Int), ()), q4) := fun h => by rw [hkk, hk2]; omega
  clear hI
  refine ⟨_, B1_.ld rfl, Gv.len fun _ _ => ifP_of (fun h1 => ?_) (fun _ => ⟨rfl, xh⟩)⟩
  have hjm : j < m := by have := of_decide_eq_true h1; omega
  refine ⟨_, B1_.ld rfl, Gv.e4 hjm ⟨_, B3.ld rfl, Gv2.e4 hjm ?_⟩⟩
  refine ⟨.bool false, fun w _ => ed_same (es j) _ _ w, ?_⟩
  refine boolP_mk (ifP_of (fun h => by cases h) (fun _ => ?_))
  rw [i64_inc (by omega)]
  exact mu_next (I := I) (k := m - (j + 1)) ⟨j + 1, rfl, hjm, rfl, rfl⟩ (hlt hjm)

theorem S4.cut {own : Own} {i : Nat} {v : Value} (s : S4 own h i v (m + 1) es) : ∃ b c, v = .slice (some (bk b)) (m + 1) c ∧ m + 1 ≤ c := by
  rcases s with ⟨e, _⟩ | ⟨b, c, e, zs, _, h1, _, h3⟩
  · omega
  · exact ⟨b, c, h1, by omega⟩
theorem sliceV_0 {b c k : Nat} (hc : 0 < c) : sliceV (some (bk b)) c 0 (k : Int) 4 = .slice (some (bk b)) k c := by
  unfold sliceV
  rw [if_neg (by simp; omega)]
  simp [bk, Addr.add]
theorem Gs.take {a : Option Addr} {c : Nat} {es' : Nat → Ed} (s : Gs h (.slice a (m + 1) c) (m + 1) es') (he : ∀ j, j < m → es' j = es j) : Gs h (.slice a m c) m es := by
  obtain ⟨a', c', e, H⟩ := s
  cases e
  exact ⟨_, _, rfl, fun i hi => by rw [← he i hi]; exact H i (by omega)⟩
end

end Go.Proofs.Ythglkcpoofenbaa

/-! FlowKeeps. -/
namespace Go.Proofs.Ythglkcpoofenbaa
open Go
set_option linter.unusedVariables false
set_option linter.unusedSimpArgs false

/-- The second answer. -/
def Bk (n : Int) (m : Nat) (es : Nat → Ed) (own : Own) (q : H) (flv : List Value) (v2 e2 : Int) : Prop :=
  (e2 ≠ 0 ∧ flv = flZ) ∨ (e2 = 0 ∧ ∃ (n' s' t' d1 d2 : Nat) (f : Nat → Int) (sd : Nat → Bool), n = n' ∧ flv = flV s' t' (slV d1 m) (slV d2 n') ∧ s' < n' ∧ t' < n' ∧ s' ≠ t' ∧ Gd n' m es ∧
    v2 = OutF m (frE es) (toE es) f s' ∧ MaxP n' m (frE es) (toE es) (cpE es) s' t' f ∧ (∀ v, v < n' → (sd v = true ↔ Rch (RsS m (frE es) (toE es) (cpE es) f) s' v)) ∧
    S1 own q 8 (slV d1 m) (ints m f) ∧ S1 own q 9 (slV d2 n') (bools n' sd))
theorem Bk.fm {n : Int} {m : Nat} {es : Nat → Ed} {own own' : Own} {q q' : H} {flv : List Value} {v2 e2 : Int} {M : List Nat} (B : Bk n m es own q flv v2 e2) (F : Fm M own q own' q') (h8 : 8 ∉ M ∧ 9 ∉ M) : Bk n m es own' q' flv v2 e2 := by
  rcases B with B | ⟨e, n', s', t', d1, d2, f, sd, a1, a2, a3, a4, a5, a6, a7, a8, a9, k8, k9⟩
  · exact .inl B
  · exact .inr ⟨e, n', s', t', d1, d2, f, sd, a1, a2, a3, a4, a5, a6, a7, a8, a9, k8.fm F h8.1, k9.fm F h8.2⟩
theorem Bk.nw {n : Int} {m : Nat} {es : Nat → Ed} {own : Own} {q q' : H} {flv : List Value} {v2 e2 : Int} {b j : Nat} (B : Bk n m es own q flv v2 e2) (x : Ext q q') (hb : q b = none) : Bk n m es (own1 own b j) q' flv v2 e2 :=
  B.fm (M := []) (Fm.new x hb) (by simp)
theorem Bk.one {n : Int} {m : Nat} {es : Nat → Ed} {own : Own} {q : H} {flv : List Value} {v2 e2 : Int} (B : Bk n m es own q flv v2 e2) : flv.length = 4 ∧ ∀ v ∈ flv, v.oneCell' = true := by
  rcases B with ⟨_, rfl⟩ | ⟨e, n', s', t', d1, d2, f, sd, a1, rfl, _⟩
  · exact ⟨rfl, by simp [Value.oneCell']⟩
  · exact ⟨rfl, by simp [Value.oneCell']⟩

section
variable {h : H} {w : List Value}
theorem FlowKeeps_T {n : Int} {m : Nat} {es : Nat → Ed} (G : GrA h w n m es) (hm : m ≤ 4398046511104) (s t k : Int) :
    T Try.prog F.compasslaw13_FlowKeeps [.agg ⟨w⟩, .agg ⟨[.int .i64 s, .int .i64 t]⟩, .int .i64 k] h fun r h' => r = .ret (.bool true) ∧ Ext h h' := by
  refine E_compasslaw13_FlowKeeps ?_
  unfold B_compasslaw13_FlowKeeps
  obtain ⟨gv, rfl, Gv⟩ := G.gs
  refine new_bl ?_
  intro b1 q2 hb1 x1 B1_
  refine new_bl ?_
  intro b3 q4 hb3 x3 B3
  refine awake_T.mono ?_
  rintro _ q6 ⟨rfl, x6⟩
  refine rt_ret ⟨_, rfl, ifP_of (fun h => by cases h) (fun _ => ?_)⟩
  have xh := (x1.trans' x3).trans' x6
  have B1_ := (B1_.ext x3).ext x6
  have B3 := B3.ext x6
  have G := G.ext xh
  have Gv := Gv.ext xh
  clear x1 x3 x6 hb1 hb3
  refine B1_.ldN G.one.1 ?_
  refine (Copy_R G hm).mono ?_
  rintro _ q10 ⟨v3, own, rfl, bs, k1⟩
  refine rt_ret ⟨_, rfl, rfl, new_bl_st rfl rfl (by intro v hv; simp only [List.mem_cons, List.mem_nil_iff, or_false] at hv; rcases hv with rfl | rfl; rfl; exact slc_one k1.isS) ?_⟩
  intro b12 q14 hb12 x12 B12
  have bs := bs.nw (j := 2) x12 hb12
  have k1 := k1.nw (j := 2) x12 hb12
  have k2 : B1 (own1 own b12 2) q14 2 b12 _ := B1.new B12
  generalize own1 own b12 2 = own at *
  refine ⟨_, k2.ld rfl, _, (B1_.ext bs.ext).ld rfl, (Gv.ext bs.ext).len fun _ _ => ⟨rfl, ?_⟩⟩
  refine k1.push (ed := ⟨0, 0, -7, 0⟩) hm ?_
  intro b20 q21 p' own' q23 hb20 x21 F k1
  have bs0 := bs.ext
  have bs := bs.fm F (by simp <;> omega)
  have k2 := k2.fm F (by simp <;> omega)
  refine ⟨sameAt_bl (B1_.ext (bs0.trans' x21)) (B1_.ext bs.ext), ?_⟩
  clear bs0 x21 hb20 F B12 x12 hb12
  obtain ⟨bp, c, rfl, hc⟩ := k1.cut
  refine slcP_mk ⟨by omega, by omega, by omega, by omega, ?_⟩
  rw [sliceV_0 (by omega)]
  refine oneP_mk (k2.st (j := 1) (by simp) ?_)
  intro q27 F k2
  have bs := bs.fm F (by simp <;> omega)
  have k1 := k1.fm F (by simp <;> omega)
  have tk : ∀ {own : Own} {q : H}, S4 own q 1 (.slice (some (bk bp)) (m + 1) c) (m + 1) (fun j => if j = m then ⟨0, 0, -7, 0⟩ else es j) → Gs q (.slice (some (bk bp)) m c) m es :=
    fun k1 => k1.gs.take fun j hj => if_neg (by omega)
  have C3 := B3.ext bs.ext
  refine k2.ldN rfl (end0 C3 (end1 C3 ?_))
  refine (Solve_T ((tk k1).gr n) s t k).mono ?_
  rintro r q34 ⟨x34, hA⟩
  obtain ⟨own2, s1, t1, von, vsd, v1, e1, l, l', f, sd, rfl, bs, k1, k2, k5, k6⟩ : ∃ (own2 : Own) (s1 t1 : Int) (von vsd : Value) (v1 e1 : Int) (l l' : Nat) (f : Nat → Int) (sd : Nat → Bool),
      r = .ret (.tuple ⟨[.agg ⟨flV s1 t1 von vsd⟩, .int .i64 v1, .int .i64 e1]⟩) ∧ Bs q6 own2 q34 ∧ S4 own2 q34 1 (.slice (some (bk bp)) (m + 1) c) (m + 1) (fun j => if j = m then ⟨0, 0, -7, 0⟩ else es j) ∧
      B1 own2 q34 2 b12 [.int .i64 n, .slice (some (bk bp)) m c] ∧ S1 own2 q34 5 von (ints l f) ∧ S1 own2 q34 6 vsd (bools l' sd) ∧ l ≤ 1000000 ∧ l' ≤ 1000000 := by
    rcases hA with ⟨hw, rfl⟩ | ⟨hw, n', s', t', c1, c2, f, sd, rfl, rfl, rfl, hs, ht, hst, g, rfl, S⟩
    · have FX : Fm [] own' q27 own' q34 := Fm.of_ext x34
      exact ⟨own', 0, 0, _, _, 0, _, 0, 0, fun _ => 0, fun _ => false, rfl, bs.fm FX (by simp <;> omega), k1.fm FX (by simp <;> omega), k2.fm FX (by simp <;> omega), S1.nil, S1.nil, by omega, by omega⟩
    · have FX := (Fm.new (M := []) (own := own') (i := 5) (Ext.refl q27) S.n1).trans (Fm.new (i := 6) x34 S.n2)
      have m1 := g.m1
      have n1 := g.n1
      exact ⟨_, _, _, _, _, _, _, m, n', f, sd, rfl, bs.fm FX (by simp <;> omega), k1.fm FX (by simp <;> omega), k2.fm FX (by simp <;> omega), .inr ⟨c1, by rw [own1_ne S.ne, own1_at], S.s1⟩, .inr ⟨c2, own1_at, S.s2⟩, by omega, by omega⟩
  obtain ⟨k6, hl, hl'⟩ := k6
  refine rt_ret ⟨_, rfl, _, _, rfl, new_bl_st rfl rfl (by intro v hv; simp only [List.mem_cons, List.mem_nil_iff, or_false] at hv; rcases hv with rfl | rfl | rfl | rfl; rfl; rfl; exact k5.one; exact k6.one) ?_⟩
  intro b38 q40 hb38 x38 B38
  have k7 : B1 (own1 own2 b38 7) q40 7 b38 _ := B1.new B38
  have bs := bs.nw (j := 7) x38 hb38
  have k1 := k1.nw (j := 7) x38 hb38
  have k2 := k2.nw (j := 7) x38 hb38
  have k5 := k5.nw (j := 7) x38 hb38
  have k6 := k6.nw (j := 7) x38 hb38
  generalize own1 own2 b38 7 = own at *
  have C3 := B3.ext bs.ext
  refine k2.ldN rfl (end0 C3 (end1 C3 ?_))
  refine (Solve_T ((tk k1).gr n) s t k).mono ?_
  rintro r q47 ⟨x47, hA⟩
  obtain ⟨own2, flv, v2, e2, rfl, bs, k1, k2, k5, k6, k7, kb⟩ : ∃ (own2 : Own) (flv : List Value) (v2 e2 : Int), r = .ret (.tuple ⟨[.agg ⟨flv⟩, .int .i64 v2, .int .i64 e2]⟩) ∧
      Bs q6 own2 q47 ∧ S4 own2 q47 1 (.slice (some (bk bp)) (m + 1) c) (m + 1) (fun j => if j = m then ⟨0, 0, -7, 0⟩ else es j) ∧
      B1 own2 q47 2 b12 [.int .i64 n, .slice (some (bk bp)) m c] ∧ S1 own2 q47 5 von (ints l f) ∧ S1 own2 q47 6 vsd (bools l' sd) ∧ B1 own2 q47 7 b38 (flV s1 t1 von vsd) ∧ Bk n m es own2 q47 flv v2 e2 := by
    rcases hA with ⟨hw, rfl⟩ | ⟨hw, n', s', t', c1, c2, f, sd, rfl, rfl, rfl, hs, ht, hst, g, rfl, S⟩
    · have FX : Fm [] own q40 own q47 := Fm.of_ext x47
      exact ⟨own, _, _, _, rfl, bs.fm FX (by simp <;> omega), k1.fm FX (by simp <;> omega), k2.fm FX (by simp <;> omega), k5.fm FX (by simp <;> omega), k6.fm FX (by simp <;> omega), k7.fm FX (by simp <;> omega), .inl ⟨hw, rfl⟩⟩
    · have FX := (Fm.new (M := []) (own := own) (i := 8) (Ext.refl q40) S.n1).trans (Fm.new (i := 9) x47 S.n2)
      exact ⟨_, _, _, _, rfl, bs.fm FX (by simp <;> omega), k1.fm FX (by simp <;> omega), k2.fm FX (by simp <;> omega), k5.fm FX (by simp <;> omega), k6.fm FX (by simp <;> omega), k7.fm FX (by simp <;> omega),
        .inr ⟨rfl, n', s', t', c1, c2, f, sd, rfl, rfl, hs, ht, hst, g, rfl, S.mx, S.sd, .inr ⟨c1, by rw [own1_ne S.ne, own1_at], S.s1⟩, .inr ⟨c2, own1_at, S.s2⟩⟩⟩
  clear hA
  refine rt_ret ⟨_, kb.one.1, _, _, rfl, new_bl_st kb.one.1 rfl kb.one.2 ?_⟩
  intro b51 q53 hb51 x51 B51
  have k10 : B1 (own1 own2 b51 10) q53 10 b51 _ := B1.new B51
  have bs := bs.nw (j := 10) x51 hb51
  have k1 := k1.nw (j := 10) x51 hb51
  have k2 := k2.nw (j := 10) x51 hb51
  have k5 := k5.nw (j := 10) x51 hb51
  have k6 := k6.nw (j := 10) x51 hb51
  have k7 := k7.nw (j := 10) x51 hb51
  have kb := kb.nw (j := 10) x51 hb51
  generalize own1 own2 b51 10 = own at *
  refine k2.ldN rfl ((B1_.ext bs.ext).ldN rfl ?_)
  refine (Same_R ((tk k1).gr n) (G.ext bs.ext) hm).mono ?_
  rintro _ q57 ⟨rfl, x57⟩
  have FX : Fm [] own q53 own q57 := Fm.of_ext x57
  have bs := bs.fm FX (by simp <;> omega)
  have k1 := k1.fm FX (by simp <;> omega)
  have k2 := k2.fm FX (by simp <;> omega)
  have k5 := k5.fm FX (by simp <;> omega)
  have k6 := k6.fm FX (by simp <;> omega)
  have k7 := k7.fm FX (by simp <;> omega)
  have k10 := k10.fm FX (by simp <;> omega)
  have kb := kb.fm FX (by simp)
  clear FX x57
  have C1 := B1_.ext bs.ext
  have Gq := Gv.ext bs.ext
  refine rt_ret ⟨_, rfl, ifP_of (fun h => by cases h) (fun _ => ?_)⟩
  refine ⟨_, k2.ld rfl, _, C1.ld rfl, Gq.len fun _ _ => slcP_mk ?_⟩
  rw [i64_inc (by omega)]
  refine ⟨by omega, by omega, by omega, by omega, _, C1.ld rfl, Gq.len fun _ _ => ?_⟩
  rw [sliceV_0 (by omega)]
  refine k1.gs.c (i := m) (by omega) ?_
  rw [if_pos rfl]
  refine ifP_of (fun h => by simp at h) (fun _ => ?_)
  refine ⟨_, k7.ld rfl, k5.len (ints_length _ _) fun _ _ => ?_⟩
  let I : (Int × Unit) → H → Nat → Prop := fun p q z => ∃ (j : Nat) (f' : Nat → Int), p.1 = j ∧ j ≤ l ∧ z = l - j ∧ Fm [5] own q57 own q ∧ S1 own q 5 von (ints l f')
  refine ⟨fun p q => ∃ k, I p q k, rk I, rk_wf I, ⟨_, 0, f, rfl, by omega, rfl, Fm.refl, k5⟩, ?_⟩
  clear k5
  intro p q hI
  obtain ⟨j, f', e1_, hj, hk2, Fq, k5⟩ := mu_spec hI
  generalize hkk : mu I ((p, ()), q) = km at *
  change p = (j : Int) at e1_
  subst e1_
  have hlt : j < l → l - (j + 1) < mu I (((j : Int), ()), q) := fun h => by rw [hkk, hk2]; omega
  clear hI
  refine ifP_of (fun h1 => ?_) (fun h1 => ?_)
  · have hjl : j < l := by have := of_decide_eq_true h1; omega
    refine ⟨_, (k7.fm Fq (by simp <;> omega)).ld rfl, k5.setI hjl ?_⟩
    intro q83 F k5
    rw [i64_inc (by omega)]
    exact mu_next (I := I) (k := l - (j + 1)) ⟨j + 1, _, rfl, hjl, rfl, Fq.trans F, k5⟩ (hlt hjl)
  clear hlt hkk hk2 h1 hj k5
  have bs := bs.fm Fq (by simp <;> omega)
  have k6 := k6.fm Fq (by simp <;> omega)
  have k7 := k7.fm Fq (by simp <;> omega)
  have k10 := k10.fm Fq (by simp <;> omega)
  have kb := kb.fm Fq (by simp)
  clear Fq
  refine ⟨_, k7.ld rfl, k6.len (bools_length _ _) fun _ _ => ?_⟩
  let I2 : (Int × Unit) → H → Nat → Prop := fun p q2 z => ∃ (j : Nat) (f' : Nat → Bool), p.1 = j ∧ j ≤ l' ∧ z = l' - j ∧ Fm [6] own q own q2 ∧ S1 own q2 6 vsd (bools l' f')
  refine ⟨fun p q => ∃ k, I2 p q k, rk I2, rk_wf I2, ⟨_, 0, sd, rfl, by omega, rfl, Fm.refl, k6⟩, ?_⟩
  clear k6
  intro p q2 hI
  obtain ⟨j, f', e1_, hj, hk2, Fq, k6⟩ := mu_spec hI
  generalize hkk : mu I2 ((p, ()), q2) = km at *
  change p = (j : Int) at e1_
  subst e1_
  have hlt : j < l' → l' - (j + 1) < mu I2 (((j : Int), ()), q2) := fun h => by rw [hkk, hk2]; omega
  clear hI
  refine ifP_of (fun h1 => ?_) (fun h1 => ?_)
  · have hjl : j < l' := by have := of_decide_eq_true h1; omega
    refine ⟨_, (k7.fm Fq (by simp <;> omega)).ld rfl, _, (k7.fm Fq (by simp <;> omega)).ld rfl, k6.rdB hjl (k6.setB hjl ?_)⟩
    intro q83 F k6
    rw [i64_inc (by omega)]
    exact mu_next (I := I2) (k := l' - (j + 1)) ⟨j + 1, _, rfl, hjl, rfl, Fq.trans F, k6⟩ (hlt hjl)
  clear hlt hkk hk2 h1 hj k6
  have bs := bs.fm Fq (by simp <;> omega)
  have k10 := k10.fm Fq (by simp <;> omega)
  have kb := kb.fm Fq (by simp)
  have G := G.ext bs.ext
  refine (B1_.ext bs.ext).ldN rfl (k10.ldN kb.one.1 ?_)
  rcases kb with ⟨he, rfl⟩ | ⟨rfl, n', s', t', d1, d2, f2, sd2, rfl, rfl, hs, ht, hst, g, rfl, M, hsd, k8, k9⟩
  · refine (proofMax_no G).mono ?_
    rintro _ q60 ⟨⟨x, y, rfl⟩, x60⟩
    exact rt_ret ⟨_, _, rfl, ifP_of (fun _ => ⟨rfl, (xh.trans' bs.ext).trans' x60⟩) (fun h => absurd (by simpa using h) he)⟩
  · refine (proofMax_ok G g (RS.of_S1 k8) (RS.of_S1 k9) hs ht hst M hsd).mono ?_
    rintro _ q60 ⟨rfl, x60⟩
    refine rt_ret ⟨_, _, rfl, ifP_of (fun h => by simp at h) (fun _ => ifP_of (fun _ => ⟨by simp, (xh.trans' bs.ext).trans' x60⟩) (fun h => by simp at h))⟩
end

end Go.Proofs.Ythglkcpoofenbaa

