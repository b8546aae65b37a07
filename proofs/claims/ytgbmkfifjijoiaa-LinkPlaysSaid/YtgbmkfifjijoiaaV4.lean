/- Each operation comes to what 'opt' says of it: the operations that make memory, and calls. -/
import Derived.Test.YtgbmkfifjijoiaaV3
import Derived.Laws.AppendOwn
namespace Go.Proofs.Ytgbmkfifjijoiaa
open Go
set_option linter.unusedVariables false
set_option linter.unusedSimpArgs false

def FrOK (fr : Fr) (a : Act) : Prop := ∀ t v, Fr.get fr t = some v → a.tmps[t]? = some v

theorem FrOK.nil (a : Act) : FrOK [] a := fun t v h => by simp [Fr.get] at h

theorem FrOK.evalO {fr : Fr} {a : Act} (hf : FrOK fr a) {x : Operand} {v : Value} (h : evalO fr x = some v) : a.eval x = v := by
  cases x with
  | tmp t => have := hf t v h; simp [Act.eval, this]
  | const u => simpa [Go.Proofs.Ytgbmkfifjijoiaa.evalO, Act.eval] using h
  | global g => simpa [Go.Proofs.Ytgbmkfifjijoiaa.evalO, Act.eval] using h
  | func f => simpa [Go.Proofs.Ytgbmkfifjijoiaa.evalO, Act.eval] using h

theorem FrOK.evalL {fr : Fr} {a : Act} (hf : FrOK fr a) : ∀ {l : List Operand} {vs : List Value}, evalL fr l = some vs → l.map a.eval = vs := by
  intro l
  induction l with
  | nil => intro vs h; simp [Go.Proofs.Ytgbmkfifjijoiaa.evalL] at h; simp [h]
  | cons x r ih =>
    intro vs h
    simp only [Go.Proofs.Ytgbmkfifjijoiaa.evalL] at h
    cases hx : Go.Proofs.Ytgbmkfifjijoiaa.evalO fr x with
    | none => simp [hx] at h
    | some v =>
      cases hr : Go.Proofs.Ytgbmkfifjijoiaa.evalL fr r with
      | none => simp [hx, hr] at h
      | some us =>
        simp only [hx, hr, Option.some.injEq] at h
        subst h
        simp [hf.evalO hx, ih hr]

theorem FrOK.zipE {fr : Fr} {a : Act} (hf : FrOK fr a) : ∀ {l : List (Nat × Operand)} {vs : List (Nat × Value)}, zipE fr l = some vs → l.map (fun p => (p.1, a.eval p.2)) = vs := by
  intro l
  induction l with
  | nil => intro vs h; simp [Go.Proofs.Ytgbmkfifjijoiaa.zipE] at h; simp [h]
  | cons x r ih =>
    intro vs h
    obtain ⟨i, x⟩ := x
    simp only [Go.Proofs.Ytgbmkfifjijoiaa.zipE] at h
    cases hx : Go.Proofs.Ytgbmkfifjijoiaa.evalO fr x with
    | none => simp [hx] at h
    | some v =>
      cases hr : Go.Proofs.Ytgbmkfifjijoiaa.zipE fr r with
      | none => simp [hx, hr] at h
      | some us =>
        simp only [hx, hr, Option.some.injEq] at h
        subst h
        simp [hf.evalO hx, ih hr]

theorem FrOK.optE {fr : Fr} {a : Act} (hf : FrOK fr a) {o : Option Operand} {v : Option Value} (h : optE fr o = some v) : o.map a.eval = v := by
  cases o with
  | none => simpa [Go.Proofs.Ytgbmkfifjijoiaa.optE] using h
  | some x =>
    simp only [Go.Proofs.Ytgbmkfifjijoiaa.optE] at h
    cases hx : Go.Proofs.Ytgbmkfifjijoiaa.evalO fr x with
    | none => simp [hx] at h
    | some u => simp only [hx, Option.some.injEq] at h; subst h; simp [hf.evalO hx]

/-- A new block. -/
theorem newP_run {P : Program} {h : H} {o : Obj} {K : Nat → H → Prop} (hn : newP h o K) (w : World) (hs : Sub h w) :
    K w.heap.size (hput h w.heap.size o) ∧ Sub (hput h w.heap.size o) { w with heap := w.heap.push o } := ⟨hn _ hs.fresh, hs.put o⟩

/-! ### Numbers -/

theorem sameK_spec {k k' : IntKind} (h : sameK k k' = true) : k = k' := by cases k <;> cases k' <;> first | rfl | cases h

theorem run_intBits (P : Program) (w : World) (op : BinOp) (k : IntKind) (a b : Int) (h : op = .and ∨ op = .or ∨ op = .xor ∨ op = .andNot) :
    (Op.intBits op k a b).run P w = .ok (.int k (bitsI op k a b)) w := by
  rcases h with rfl | rfl | rfl | rfl <;> rfl

theorem intBin_run {P : Program} {op : BinOp} {k k' : IntKind} {a b : Int} {K : Value → Prop} (hk : (sameK k k' || isShift op) = true) (h : intBin op k a b K) :
    ∃ r, K r ∧ ∀ w t, (binOp op t (.int k a) (.int k' b)).run P w = .ok r w := by
  have hne : isShift op = false → ¬ k ≠ k' := fun hs => by rw [hs, Bool.or_false] at hk; simp [sameK_spec hk]
  cases op <;> simp only [intBin] at h
  case quo => exact ⟨_, h.2, fun w t => by simp [binOp, hne rfl, Op.intDiv, h.1]⟩
  case rem => exact ⟨_, h.2, fun w t => by simp [binOp, hne rfl, Op.intDiv, h.1]⟩
  case and => exact ⟨_, h, fun w t => by simp only [binOp, hne rfl, if_false]; exact run_intBits P w _ _ _ _ (by simp)⟩
  case or => exact ⟨_, h, fun w t => by simp only [binOp, hne rfl, if_false]; exact run_intBits P w _ _ _ _ (by simp)⟩
  case xor => exact ⟨_, h, fun w t => by simp only [binOp, hne rfl, if_false]; exact run_intBits P w _ _ _ _ (by simp)⟩
  case andNot => exact ⟨_, h, fun w t => by simp only [binOp, hne rfl, if_false]; exact run_intBits P w _ _ _ _ (by simp)⟩
  case shl => exact ⟨_, h.2, fun w t => by have h0 := h.1; simp [binOp, Op.shift, show ¬ b < 0 by omega]⟩
  case shr => exact ⟨_, h.2, fun w t => by have h0 := h.1; simp [binOp, Op.shift, show ¬ b < 0 by omega]⟩
  case neq => exact ⟨_, h, fun w t => by
    simp only [binOp, hne rfl, if_false, Op.intCmp, Sem.run_pure, bne]
    by_cases e : a = b <;> simp [e]⟩
  case eql => exact ⟨_, h, fun w t => by
    simp only [binOp, hne rfl, if_false, Op.intCmp, Sem.run_pure]
    by_cases e : a = b <;> simp [e]⟩
  all_goals exact ⟨_, h, fun w t => by simp [binOp, hne rfl, Op.intArith, Op.intCmp]⟩

theorem run_eqGuard_int {P : Program} (w : World) (op : BinOp) (t : TypeId) (x y : Operand) (k k' : IntKind) (a b : Int) :
    (eqGuard op t x y (.int k a) (.int k' b)).run P w = .ok () w := by
  unfold eqGuard; cases op <;> simp

theorem run_eqGuard_bool {P : Program} (w : World) (op : BinOp) (t : TypeId) (x y : Operand) (a b : Bool) :
    (eqGuard op t x y (.bool a) (.bool b)).run P w = .ok () w := by
  unfold eqGuard; cases op <;> simp

theorem run_eqGuard_ptr {P : Program} (w : World) (op : BinOp) (t : TypeId) (x y : Operand) (a b : Option Addr) :
    (eqGuard op t x y (.pointer a) (.pointer b)).run P w = .ok () w := by
  unfold eqGuard; cases op <;> simp

theorem run_eqGuard_slc {P : Program} (w : World) (op : BinOp) (t : TypeId) (x y : Operand) (a b : Option Addr) (l c m d : Nat) :
    (eqGuard op t x y (.slice a l c) (.slice b m d)).run P w = .ok () w := by
  unfold eqGuard; cases op <;> simp

theorem run_eqIn_bool {P : Program} {t : TypeId} (hu : P.underlying t = some .bool) (d : Nat) (a b : Bool) (w : World) :
    (Op.equalIn (d + 1) t (.bool a) (.bool b)).run P w = .ok (a == b) w := by simp [Op.equalIn, run_underlying hu]
theorem run_equal_bool {P : Program} {t : TypeId} (hu : P.underlying t = some .bool) (a b : Bool) (w : World) :
    (Op.equal t (.bool a) (.bool b)).run P w = .ok (a == b) w := run_eqIn_bool hu 9999 a b w
theorem run_eqIn_ptr {P : Program} {t e : TypeId} (hu : P.underlying t = some (.pointer e)) (d : Nat) (a : Option Addr) (w : World) :
    (Op.equalIn (d + 1) t (.pointer a) (.pointer none)).run P w = .ok a.isNone w := by cases a <;> simp [Op.equalIn, run_underlying hu]
theorem run_equal_ptr {P : Program} {t e : TypeId} (hu : P.underlying t = some (.pointer e)) (a : Option Addr) (w : World) :
    (Op.equal t (.pointer a) (.pointer none)).run P w = .ok a.isNone w := run_eqIn_ptr hu 9999 a w
theorem run_eqIn_slc {P : Program} {t e : TypeId} (hu : P.underlying t = some (.slice e)) (d : Nat) (a : Option Addr) (l c m n : Nat) (w : World) :
    (Op.equalIn (d + 1) t (.slice a l c) (.slice none m n)).run P w = .ok a.isNone w := by cases a <;> simp [Op.equalIn, run_underlying hu]
theorem run_equal_slc {P : Program} {t e : TypeId} (hu : P.underlying t = some (.slice e)) (a : Option Addr) (l c m n : Nat) (w : World) :
    (Op.equal t (.slice a l c) (.slice none m n)).run P w = .ok a.isNone w := run_eqIn_slc hu 9999 a l c m n w

theorem binP_run {P : Program} {op : BinOp} {t : TypeId} {ox oy : Operand} {x y : Value} {h : H} {K : Value → Prop} (hb : binP P op t ox oy x y h K) :
    ∃ r, K r ∧ ∀ w, Sub h w → (do eqGuard op t ox oy x y; binOp op t x y : Sem Value).run P w = .ok r w := by
  unfold binP at hb
  have gen : (runP P h (do eqGuard op t ox oy x y; binOp op t x y) K) → ∃ r, K r ∧ ∀ w, Sub h w → (do eqGuard op t ox oy x y; binOp op t x y : Sem Value).run P w = .ok r w :=
    fun ⟨r, hr, hk⟩ => ⟨r, hk, hr⟩
  split at hb
  · split at hb
    · rename_i k a k' b
      cases hc : (sameK k k' || isShift op) with
      | false => simp [hc] at hb
      | true =>
        simp only [hc, cond_true] at hb
        obtain ⟨r, hk, hr⟩ := intBin_run (P := P) hc hb
        exact ⟨r, hk, fun w _ => by simp [run_eqGuard_int, hr]⟩
    · exact hb.elim
  · rename_i hu
    split at hb
    · rename_i a b
      split at hb
      · refine ⟨_, hb, fun w _ => ?_⟩
        simp only [Sem.run_bind, run_eqGuard_bool, Result.andThen_ok, binOp, run_equal_bool hu, Sem.run_pure]
      · refine ⟨_, hb, fun w _ => ?_⟩
        simp only [Sem.run_bind, run_eqGuard_bool, Result.andThen_ok, binOp, run_equal_bool hu, Sem.run_pure]
      · exact hb.elim
    · exact hb.elim
  · rename_i e hu
    split at hb
    · obtain ⟨q, rfl, hb2⟩ := ptrO_spec hb
      clear hb
      cases op <;> simp only [isEq, cond_true, cond_false, negIf] at hb2
      case eql =>
        refine ⟨_, hb2, fun w _ => ?_⟩
        simp only [Sem.run_bind, run_eqGuard_ptr, Result.andThen_ok, binOp, run_equal_ptr hu, Sem.run_pure]
      case neq =>
        refine ⟨_, hb2, fun w _ => ?_⟩
        simp only [Sem.run_bind, run_eqGuard_ptr, Result.andThen_ok, binOp, run_equal_ptr hu, Sem.run_pure]
    · exact gen hb
  · rename_i e hu
    split at hb
    · obtain ⟨q, l, c, rfl, hb2⟩ := slcP_spec hb
      clear hb
      cases op <;> simp only [isEq, cond_true, cond_false, negIf] at hb2
      case eql =>
        refine ⟨_, hb2, fun w _ => ?_⟩
        simp only [Sem.run_bind, run_eqGuard_slc, Result.andThen_ok, binOp, run_equal_slc hu, Sem.run_pure]
      case neq =>
        refine ⟨_, hb2, fun w _ => ?_⟩
        simp only [Sem.run_bind, run_eqGuard_slc, Result.andThen_ok, binOp, run_equal_slc hu, Sem.run_pure]
    · exact gen hb
  · exact gen hb

theorem unP_run {P : Program} {op : UnOp} {x : Value} {h : H} {K : Value → Prop} (hb : unP P op x h K) :
    ∃ r, K r ∧ ∀ w, Sub h w → (Op.unary op x).run P w = .ok r w := by
  unfold unP at hb
  split at hb
  · obtain ⟨b, rfl, hb⟩ := boolP_spec hb
    exact ⟨_, hb, fun w _ => rfl⟩
  · exact ⟨_, hb, fun w _ => by simp [Op.unary, Op.intArith]⟩
  · obtain ⟨r, hr, hk⟩ := hb; exact ⟨r, hk, hr⟩

theorem convP_run {P : Program} {s d : TypeId} {x : Value} {h : H} {K : Value → Prop} (hb : convP P s d x h K) :
    ∃ r, K r ∧ ∀ w, Sub h w → (convert s d x).run P w = .ok r w := by
  unfold convP at hb
  split at hb
  · rename_i hu hv
    obtain ⟨k, n, rfl, hb⟩ := intP_spec hb
    exact ⟨_, hb, fun w _ => by simp [convert, run_underlying hu, run_underlying hv, Conv.intToInt]⟩
  · obtain ⟨r, hr, hk⟩ := hb; exact ⟨r, hk, hr⟩

theorem partP_run {P : Program} {t : TypeId} {cs : List Value} {off : Nat} {K : Value → Prop} (hb : partP P t cs off K) :
    ∃ r, K r ∧ ∀ w, (part t ⟨cs⟩ off).run P w = .ok r w := by
  unfold partP at hb
  cases hu : P.underlying t with
  | none => simp [hu] at hb
  | some d =>
    have key : ∀ v, isAggD d = false → cs[off]? = some v → K v → ∃ r, K r ∧ ∀ w, (part t ⟨cs⟩ off).run P w = .ok r w := fun v hd hc hk =>
      ⟨v, hk, fun w => by
        have : (⟨cs⟩ : Array Value)[off]? = some v := by simpa using hc
        simp only [part, Sem.run_bind, run_isAgg' hu, Result.andThen_ok, hd, Bool.false_eq_true, if_false, this]; rfl⟩
    have keyN : isAggD d = true → K (.agg ⟨(cs.drop off).take (P.cellsOf t)⟩) → ∃ r, K r ∧ ∀ w, (part t ⟨cs⟩ off).run P w = .ok r w := fun hd hk =>
      ⟨_, hk, fun w => by
        simp only [part, Sem.run_bind, run_isAgg' hu, Result.andThen_ok, hd, if_true, run_sizeOf' hu, Sem.run_pure]
        congr 2
        apply Array.ext'
        simp [Array.toList_extract, List.extract_eq_take_drop]⟩
    simp only [hu] at hb
    cases d <;> simp only at hb <;> first
      | (obtain ⟨n, hc, hk⟩ := hb; exact key _ rfl hc hk)
      | (exact keyN rfl hb)

theorem ixS_spec {x : Value} {i : Int} {sz : Nat} {K : Addr → Prop} (h : ixS x i sz K) : ∃ a l c, x = .slice (some a) l c ∧ 0 ≤ i ∧ i < (l : Int) ∧ K (a.add (i.toNat * sz)) := by
  unfold ixS at h
  split at h
  · exact ⟨_, _, _, rfl, h⟩
  · exact h.elim

theorem info_of_cells {P : Program} {e : TypeId} (h : Nat.beq (P.cellsOf e) 0 = false) : ∃ i, P.info? e = some i ∧ P.cellsOf e = i.size := by
  cases hi : P.info? e with
  | none => simp [Program.cellsOf, hi] at h
  | some i => exact ⟨i, rfl, by simp [Program.cellsOf, hi]⟩

theorem idxAddrP_run {P : Program} {t : TypeId} {x ix : Value} {K : Value → Prop} (hb : idxAddrP P t x ix K) :
    ∃ r, K r ∧ ∀ w, (Instr.indexAt t x ix).run P w = .ok r w := by
  unfold idxAddrP at hb
  split at hb
  · rename_i e hu
    cases hz : Nat.beq (P.cellsOf e) 0 with
    | true => simp [hz] at hb
    | false =>
    rw [hz] at hb
    simp only [cond_false] at hb
    obtain ⟨k, i, rfl, hb2⟩ := intP_spec hb
    clear hb
    obtain ⟨a, l, c, rfl, h0, h1, hk⟩ := ixS_spec hb2
    obtain ⟨inf, hinf, hsz⟩ := info_of_cells hz
    exact ⟨_, hk, fun w => by simp [Instr.indexAt, asIntOf, run_underlying hu, h0, h1, sizeOf, typeInfo, hinf, hsz]⟩
  · rename_i n e hu
    cases hz : Nat.beq (P.cellsOf e) 0 with
    | true => simp [hz] at hb
    | false =>
    rw [hz] at hb
    simp only [cond_false] at hb
    obtain ⟨k, i, rfl, hb2⟩ := intP_spec hb
    clear hb
    obtain ⟨a, rfl, h0, h1, hk⟩ := ptrP_spec hb2
    obtain ⟨inf, hinf, hsz⟩ := info_of_cells hz
    exact ⟨_, hk, fun w => by simp [Instr.indexAt, Instr.sureAddr, asIntOf, run_underlying hu, h0, h1, sizeOf, typeInfo, hinf, hsz]⟩
  · exact hb.elim

end Go.Proofs.Ytgbmkfifjijoiaa
