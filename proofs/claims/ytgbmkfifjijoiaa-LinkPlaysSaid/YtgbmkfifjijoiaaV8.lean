/- What an operation comes to hangs on what it looks at alone. -/
import Derived.Test.YtgbmkfifjijoiaaV7
namespace Go.Proofs.Ytgbmkfifjijoiaa
open Go
set_option linter.unusedVariables false
set_option linter.unusedSimpArgs false

def LinR (R : H → H → Prop) (F : H → (Value → Prop) → Prop) : Prop := ∀ h K, F h K → ∃ v, K v ∧ ∀ h' K', R h h' → K' v → F h' K'

def Ext (h h' : H) : Prop := ∀ b o, h b = some o → h' b = some o
def Any (_ _ : H) : Prop := True

theorem Ext.refl (h : H) : Ext h h := fun _ _ e => e
theorem Ext.put {h : H} {b : Nat} (hb : h b = none) (o : Obj) : Ext h (hput h b o) := fun k ok hk => by
  unfold hput
  split
  · rename_i e; subst e; rw [hb] at hk; cases hk
  · exact hk
theorem Ext.cell {h h' : H} (he : Ext h h') {a : Addr} {v : Value} (hc : hcell h a = some v) : hcell h' a = some v := by
  unfold hcell at hc ⊢
  split at hc
  · rename_i c e f hb
    rw [he _ _ hb]; exact hc
  · cases hc
theorem Ext.sub {h h' : H} (he : Ext h h') {w : World} (hs : Sub h' w) : Sub h w := fun b o hb => hs b o (he b o hb)

section
variable {R : H → H → Prop}
theorem lin_pure (v : Value) : LinR R (fun _ K => K v) := fun h K hk => ⟨v, hk, fun _ _ _ hk' => hk'⟩
theorem lin_false : LinR R (fun _ _ => False) := fun _ _ hk => hk.elim
theorem lin_and (c : Prop) {F : H → (Value → Prop) → Prop} (hF : LinR R F) : LinR R (fun h K => c ∧ F h K) := fun h K hk =>
  let ⟨v, h1, h2⟩ := hF h K hk.2; ⟨v, h1, fun h' K' r k => ⟨hk.1, h2 h' K' r k⟩⟩
theorem lin_on {α : Type} (o : Option α) {F : α → H → (Value → Prop) → Prop} (hF : ∀ a, LinR R (F a)) : LinR R (fun h K => on o fun a => F a h K) := by
  cases o with
  | none => exact lin_false
  | some a => exact hF a
theorem lin_bif (b : Bool) {F G : H → (Value → Prop) → Prop} (hF : LinR R F) (hG : LinR R G) : LinR R (fun h K => bif b then F h K else G h K) := by
  cases b
  · exact hG
  · exact hF
theorem lin_ifP (b : Bool) {F G : H → (Value → Prop) → Prop} (hF : LinR R F) (hG : LinR R G) : LinR R (fun h K => ifP b (F h K) (G h K)) := by
  cases b
  · exact hG
  · exact hF
theorem lin_ptrP (v : Value) {F : Addr → H → (Value → Prop) → Prop} (hF : ∀ a, LinR R (F a)) : LinR R (fun h K => ptrP v fun a => F a h K) := fun h K hk => by
  obtain ⟨a, rfl, hk'⟩ := ptrP_spec hk
  exact hF a h K hk'
theorem lin_ptrO (v : Value) {F : Option Addr → H → (Value → Prop) → Prop} (hF : ∀ a, LinR R (F a)) : LinR R (fun h K => ptrO v fun a => F a h K) := fun h K hk => by
  obtain ⟨a, rfl, hk'⟩ := ptrO_spec hk
  exact hF a h K hk'
theorem lin_slcP (v : Value) {F : Option Addr → Nat → Nat → H → (Value → Prop) → Prop} (hF : ∀ a l c, LinR R (F a l c)) : LinR R (fun h K => slcP v fun a l c => F a l c h K) := fun h K hk => by
  obtain ⟨a, l, c, rfl, hk'⟩ := slcP_spec hk
  exact hF a l c h K hk'
theorem lin_intP (v : Value) {F : Int → H → (Value → Prop) → Prop} (hF : ∀ a, LinR R (F a)) : LinR R (fun h K => intP v fun a => F a h K) := fun h K hk => by
  obtain ⟨k, a, rfl, hk'⟩ := intP_spec hk
  exact hF a h K hk'
theorem lin_boolP (v : Value) {F : Bool → H → (Value → Prop) → Prop} (hF : ∀ a, LinR R (F a)) : LinR R (fun h K => boolP v fun a => F a h K) := fun h K hk => by
  obtain ⟨a, rfl, hk'⟩ := boolP_spec hk
  exact hF a h K hk'
theorem lin_aggP (v : Value) {F : List Value → H → (Value → Prop) → Prop} (hF : ∀ a, LinR R (F a)) : LinR R (fun h K => aggP v fun a => F a h K) := fun h K hk => by
  obtain ⟨a, rfl, hk'⟩ := aggP_spec hk
  exact hF a h K hk'
theorem lin_tupP (v : Value) {F : List Value → H → (Value → Prop) → Prop} (hF : ∀ a, LinR R (F a)) : LinR R (fun h K => tupP v fun a => F a h K) := fun h K hk => by
  obtain ⟨a, rfl, hk'⟩ := tupP_spec hk
  exact hF a h K hk'
theorem lin_oneP (v : Value) {F : H → (Value → Prop) → Prop} (hF : LinR R F) : LinR R (fun h K => oneP v (F h K)) := by
  cases v <;> first
    | exact hF
    | exact lin_false
theorem lin_ex {α : Type} (c : H → α → Prop) (hc : ∀ h h' a, R h h' → c h a → c h' a) {F : α → H → (Value → Prop) → Prop} (hF : ∀ a, LinR R (F a)) :
    LinR R (fun h K => ∃ a, c h a ∧ F a h K) := fun h K ⟨a, h1, h2⟩ =>
  let ⟨v, k, r⟩ := hF a h K h2; ⟨v, k, fun h' K' hr hk => ⟨a, hc _ _ _ hr h1, r h' K' hr hk⟩⟩
theorem lin_ixS (x : Value) (i : Int) (sz : Nat) {F : Addr → H → (Value → Prop) → Prop} (hF : ∀ a, LinR R (F a)) : LinR R (fun h K => ixS x i sz fun a => F a h K) := fun h K hk => by
  obtain ⟨a, l, c, rfl, h0, h1, hk'⟩ := ixS_spec hk
  obtain ⟨v, k, r⟩ := hF _ h K hk'
  exact ⟨v, k, fun h' K' hr hk => ⟨h0, h1, r h' K' hr hk⟩⟩
theorem lin_ixA (a : Addr) (n : Nat) (i : Int) (sz : Nat) {F : Addr → H → (Value → Prop) → Prop} (hF : ∀ a, LinR R (F a)) : LinR R (fun h K => ixA a n i sz fun a => F a h K) := fun h K hk => by
  obtain ⟨h0, h1, hk'⟩ := hk
  obtain ⟨v, k, r⟩ := hF _ h K hk'
  exact ⟨v, k, fun h' K' hr hk => ⟨h0, h1, r h' K' hr hk⟩⟩
theorem lin_bndP (v : Option Value) (d : Int) {F : Int → H → (Value → Prop) → Prop} (hF : ∀ a, LinR R (F a)) : LinR R (fun h K => bndP v d fun a => F a h K) := fun h K hk => by
  rcases bndP_spec hk with ⟨rfl, hk'⟩ | ⟨k, i, rfl, hk'⟩
  · exact hF _ h K hk'
  · exact hF _ h K hk'

theorem lin_intBin (op : BinOp) (k : IntKind) (a b : Int) : LinR R (fun _ K => intBin op k a b K) := by
  cases op <;> first
    | exact lin_pure _
    | exact lin_and _ (lin_pure _)

theorem lin_partP (P : Program) (t : TypeId) (cs : List Value) (off : Nat) : LinR R (fun _ K => partP P t cs off K) := by
  unfold partP
  rcases P.underlying t with _ | d
  · exact lin_false
  · cases d <;> first
      | exact lin_pure _
      | exact lin_ex (fun _ n => cs[off]? = some (.int _ n)) (fun _ _ _ _ h => h) fun n => lin_pure _
      | exact lin_ex (fun _ n => cs[off]? = some (.bool n)) (fun _ _ _ _ h => h) fun n => lin_pure _
      | exact lin_ex (fun _ n => cs[off]? = some n) (fun _ _ _ _ h => h) fun n => lin_pure _

theorem lin_idxAddrP (P : Program) (t : TypeId) (x ix : Value) : LinR R (fun _ K => idxAddrP P t x ix K) := by
  unfold idxAddrP
  rcases P.underlying t with _ | d
  · exact lin_false
  · cases d <;> first
      | exact lin_false
      | exact lin_bif _ lin_false (lin_intP _ fun i => lin_ixS _ _ _ fun a => lin_pure _)
      | exact lin_bif _ lin_false (lin_intP _ fun i => lin_ptrP _ fun a => lin_ixA _ _ _ _ fun a => lin_pure _)

theorem lin_fieldP (P : Program) (t : TypeId) (x : Value) (f : Nat) : LinR R (fun _ K => fieldP P t x f K) := by
  unfold fieldP
  rcases P.underlying t with _ | d
  · exact lin_false
  · cases d <;> first
      | exact lin_false
      | exact lin_on _ fun fd => lin_aggP _ fun cs => lin_partP P _ _ _

theorem lin_fieldAddrP (P : Program) (t : TypeId) (x : Value) (f : Nat) : LinR R (fun _ K => fieldAddrP P t x f K) := by
  unfold fieldAddrP
  rcases P.underlying t with _ | d
  · exact lin_false
  · cases d <;> first
      | exact lin_false
      | exact lin_on _ fun fd => lin_bif _ lin_false (lin_ptrP _ fun a => lin_pure _)

theorem lin_mkIfcP (P : Program) (t : TypeId) (x : Value) : LinR R (fun _ K => mkIfcP P t x K) := by
  unfold mkIfcP
  rcases P.underlying t with _ | d
  · exact lin_false
  · cases d <;> first
      | exact lin_pure _
      | exact lin_false

theorem lin_lenP (P : Program) (t : TypeId) (x : Value) (h0 : H) : LinR R (fun _ K => lenP P t x h0 K) := by
  unfold lenP
  rcases P.underlying t with _ | d
  · exact lin_false
  · cases d <;> first
      | exact lin_false
      | exact lin_slcP _ fun a l c => lin_pure _
      | exact lin_pure _
      | (cases x <;> first
          | exact lin_pure _
          | exact lin_false)

theorem lin_foldI (f : Int → Int → Int) : ∀ (r : List Value) (v : Value), LinR R (fun _ K => foldI f v r K) := by
  intro r
  induction r with
  | nil => intro v; cases v <;> exact lin_pure _
  | cons x r ih =>
    intro v
    cases v <;> cases x <;> first
      | exact lin_false
      | exact ih _

/-- 'fillP' lays what it lays. -/
theorem fillP_det {P : Program} {len : Nat} {place : Nat → Option (Nat × TypeId)} : ∀ (parts : List (Nat × Value)) (cells : List Value),
    ∃ (W : Prop) (cs : List Value), ∀ K, fillP P len place parts cells K ↔ W ∧ K cs := by
  intro parts
  induction parts with
  | nil => intro cells; exact ⟨True, cells, fun K => by simp [fillP]⟩
  | cons p r ih =>
    obtain ⟨i, v⟩ := p
    intro cells
    have no : ∀ {A : (List Value → Prop) → Prop}, (∀ K, ¬ A K) → ∃ (W : Prop) (cs : List Value), ∀ K, A K ↔ W ∧ K cs :=
      fun hA => ⟨False, [], fun K => ⟨fun h => (hA K h).elim, fun h => h.1.elim⟩⟩
    simp only [fillP]
    cases place i with
    | none => exact no fun K h => h
    | some ot =>
      simp only [on]
      cases Nat.ble (ot.1 + P.cellsOf ot.2) len with
      | false => exact no fun K h => h
      | true =>
        simp only [cond_true]
        have agg : ∃ (W : Prop) (cs : List Value), ∀ K, (aggP v fun vs => vs.length = P.cellsOf ot.2 ∧ fillP P len place r (cells.take ot.1 ++ vs ++ cells.drop (ot.1 + P.cellsOf ot.2)) K) ↔ W ∧ K cs := by
          cases v <;> first
            | (rename_i cs
               obtain ⟨W, c, hW⟩ := ih (cells.take ot.1 ++ cs.toList ++ cells.drop (ot.1 + P.cellsOf ot.2))
               refine ⟨cs.toList.length = P.cellsOf ot.2 ∧ W, c, fun K => ?_⟩
               show (cs.toList.length = P.cellsOf ot.2 ∧ fillP P len place r (cells.take ot.1 ++ cs.toList ++ cells.drop (ot.1 + P.cellsOf ot.2)) K) ↔ _
               rw [hW K, and_assoc])
            | exact no fun K h => h
        have one : ∃ (W : Prop) (cs : List Value), ∀ K, (bif Nat.beq (P.cellsOf ot.2) 1 then oneP v (fillP P len place r (cells.take ot.1 ++ [v] ++ cells.drop (ot.1 + 1)) K) else False) ↔ W ∧ K cs := by
          cases Nat.beq (P.cellsOf ot.2) 1 with
          | false => exact no fun K h => h
          | true =>
            simp only [cond_true]
            cases v <;> first
              | exact ih _
              | exact no fun K h => h
        rcases P.underlying ot.2 with _ | d
        · exact no fun K h => h
        · cases d <;> first
            | exact agg
            | exact one

theorem lin_fillP (P : Program) (len : Nat) (place : Nat → Option (Nat × TypeId)) (parts : List (Nat × Value)) (cells : List Value) :
    LinR R (fun _ K => fillP P len place parts cells fun cs => K (.agg ⟨cs⟩)) := by
  obtain ⟨W, cs, hW⟩ := fillP_det (P := P) (len := len) (place := place) parts cells
  intro h K hk
  rw [hW] at hk
  exact ⟨_, hk.2, fun h' K' _ hk' => (hW _).2 ⟨hk.1, hk'⟩⟩

theorem lin_buildP (P : Program) (t : TypeId) (parts : List (Nat × Value)) : LinR R (fun _ K => buildP P t parts K) := by
  unfold buildP
  refine lin_on _ fun z => ?_
  rcases P.underlying t with _ | d
  · exact lin_false
  · cases d <;> first
      | exact lin_false
      | exact lin_bif _ (lin_fillP P _ _ _ _) lin_false

theorem lin_runP (P : Program) (s : Sem Value) : LinR Ext (fun h K => runP P h s K) := fun h K ⟨r, h1, h2⟩ =>
  ⟨r, h2, fun h' K' he hk => ⟨r, fun w hs => h1 w (he.sub hs), hk⟩⟩

theorem lin_unP (P : Program) (op : UnOp) (x : Value) : LinR Ext (fun h K => unP P op x h K) := by
  cases op <;> first
    | exact lin_boolP _ fun b => lin_pure _
    | (cases x <;> first
        | exact lin_pure _
        | exact lin_runP P _)

theorem lin_convP (P : Program) (s d : TypeId) (x : Value) : LinR Ext (fun h K => convP P s d x h K) := by
  unfold convP
  rcases P.underlying s with _ | d1
  · exact lin_runP P _
  · cases d1 <;> first
      | exact lin_runP P _
      | (rcases P.underlying d with _ | d2
         · exact lin_runP P _
         · cases d2 <;> first
             | exact lin_runP P _
             | exact lin_intP _ fun n => lin_pure _)

theorem lin_indexP (P : Program) (t : TypeId) (x ix : Value) : LinR Ext (fun h K => indexP P t x ix h K) := by
  unfold indexP
  rcases P.underlying t with _ | d
  · exact lin_runP P _
  · cases d <;> first
      | exact lin_runP P _
      | exact lin_intP _ fun i => lin_aggP _ fun cs => lin_and _ (lin_and _ (lin_partP P _ _ _))

theorem lin_sliceP (P : Program) (t : TypeId) (x : Value) (lo hi mx : Option Value) : LinR Ext (fun h K => sliceP P t x lo hi mx h K) := by
  unfold sliceP
  rcases P.underlying t with _ | d
  · exact lin_runP P _
  · cases d <;> first
      | exact lin_runP P _
      | (cases mx <;> first
          | exact lin_runP P _
          | exact lin_bif _ lin_false (lin_slcP _ fun a l c => lin_bndP _ _ fun hi => lin_and _ (lin_and _ (lin_bndP _ _ fun lo => lin_and _ (lin_and _ (lin_pure _))))))

theorem lin_binP (P : Program) (op : BinOp) (t : TypeId) (ox oy : Operand) (x y : Value) : LinR Ext (fun h K => binP P op t ox oy x y h K) := by
  unfold binP
  rcases P.underlying t with _ | d
  · exact lin_runP P _
  · cases d <;> first
      | exact lin_runP P _
      | (cases x <;> cases y <;> first
          | exact lin_false
          | exact lin_bif _ (lin_intBin _ _ _ _) lin_false)
      | (cases x <;> cases y <;> first
          | exact lin_false
          | (cases op <;> first
              | exact lin_pure _
              | exact lin_false))
      | (cases y <;> first
          | exact lin_runP P _
          | (rename_i a; cases a <;> first
              | exact lin_runP P _
              | exact lin_ptrO _ fun q => lin_bif _ (lin_pure _) lin_false))
      | (cases y <;> first
          | exact lin_runP P _
          | (rename_i a l c; cases a <;> first
              | exact lin_runP P _
              | exact lin_slcP _ fun q _ _ => lin_bif _ (lin_pure _) lin_false))

theorem lin_not (P : Program) (x : Value) : LinR R (fun h K => unP P .not x h K) := lin_boolP _ fun b => lin_pure _
theorem lin_convP0 (P : Program) (s d : TypeId) (x : Value) {k1 k2 : IntKind} (h1 : P.underlying s = some (.int k1)) (h2 : P.underlying d = some (.int k2)) : LinR R (fun h K => convP P s d x h K) := by
  unfold convP
  rw [h1, h2]
  exact lin_intP _ fun n => lin_pure _
theorem lin_indexP0 (P : Program) (t : TypeId) (x ix : Value) {n e : Nat} (h1 : P.underlying t = some (.array n e)) : LinR R (fun h K => indexP P t x ix h K) := by
  unfold indexP
  rw [h1]
  exact lin_intP _ fun i => lin_aggP _ fun cs => lin_and _ (lin_and _ (lin_partP P _ _ _))
theorem lin_sliceP0 (P : Program) (t : TypeId) (x : Value) (lo hi : Option Value) {e : Nat} (h1 : P.underlying t = some (.slice e)) : LinR R (fun h K => sliceP P t x lo hi none h K) := by
  unfold sliceP
  rw [h1]
  exact lin_bif _ lin_false (lin_slcP _ fun a l c => lin_bndP _ _ fun hi => lin_and _ (lin_and _ (lin_bndP _ _ fun lo => lin_and _ (lin_and _ (lin_pure _)))))

theorem lin_binP0 (P : Program) (op : BinOp) (t : TypeId) (ox oy : Operand) (x y : Value)
    (hc : (∃ k, P.underlying t = some (.int k)) ∨ P.underlying t = some .bool ∨ (∃ e, P.underlying t = some (.pointer e) ∧ y = .pointer none) ∨ (∃ e l c, P.underlying t = some (.slice e) ∧ y = .slice none l c)) :
    LinR R (fun h K => binP P op t ox oy x y h K) := by
  unfold binP
  rcases hc with ⟨k, hu⟩ | hu | ⟨e, hu, rfl⟩ | ⟨e, l, c, hu, rfl⟩
  · rw [hu]
    cases x <;> cases y <;> first
      | exact lin_false
      | exact lin_bif _ (lin_intBin _ _ _ _) lin_false
  · rw [hu]
    cases x <;> cases y <;> first
      | exact lin_false
      | (cases op <;> first
          | exact lin_pure _
          | exact lin_false)
  · rw [hu]; exact lin_ptrO _ fun q => lin_bif _ (lin_pure _) lin_false
  · rw [hu]; exact lin_slcP _ fun q _ _ => lin_bif _ (lin_pure _) lin_false

theorem lin_loadP (P : Program) (t : TypeId) (va : Value) (hst : ∀ a, va = .pointer (some a) → ∀ h h', R h h' → ∀ i, i < P.cellsOf t + 1 → ∀ v, hcell h (a.add i) = some v → hcell h' (a.add i) = some v) :
    LinR R (fun h K => loadP P t va h K) := by
  intro h K hk
  unfold loadP at hk
  obtain ⟨a, rfl, hk'⟩ := ptrP_spec hk
  clear hk
  have hst := hst a rfl
  have h0 : ∀ h h', R h h' → ∀ v, hcell h a = some v → hcell h' a = some v := fun h h' r v hv => by
    have := hst h h' r 0 (by omega) v; rw [add_zero'] at this; exact this hv
  have hN : LinR R (fun h K => ldN h a (P.cellsOf t) fun vs => K (.agg ⟨vs⟩)) := by
    rintro h K ⟨vs, h1, h2, h3⟩
    exact ⟨_, h3, fun h' K' hr hk => ⟨vs, h1, fun i v hv => hst h h' hr i (by have := (List.getElem?_eq_some_iff.1 hv).1; omega) v (h2 i v hv), hk⟩⟩
  have main : LinR R (fun h K => match P.underlying t with
    | some (.int k) => ldI h a k fun n => K (.int k n)
    | some .bool => ldB h a fun b => K (.bool b)
    | some (.struct _) => ldN h a (P.cellsOf t) fun vs => K (.agg ⟨vs⟩)
    | some (.array _ _) => ldN h a (P.cellsOf t) fun vs => K (.agg ⟨vs⟩)
    | some _ => ldV h a K
    | none => False) := by
    rcases P.underlying t with _ | d
    · exact lin_false
    · cases d <;> first
        | exact hN
        | exact lin_ex (fun h n => hcell h a = some (.int _ n)) (fun h h' n r hv => h0 h h' r _ hv) fun n => lin_pure _
        | exact lin_ex (fun h n => hcell h a = some (.bool n)) (fun h h' n r hv => h0 h h' r _ hv) fun n => lin_pure _
        | exact lin_ex (fun h n => hcell h a = some n) (fun h h' n r hv => h0 h h' r _ hv) fun n => lin_pure _
  exact main h K hk'
end

end Go.Proofs.Ytgbmkfifjijoiaa
