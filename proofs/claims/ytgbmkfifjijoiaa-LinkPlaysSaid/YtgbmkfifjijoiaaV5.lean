/- Each operation comes to what 'opt' says of it: aggregates, new memory, append. -/
import Derived.Test.YtgbmkfifjijoiaaV4
namespace Go.Proofs.Ytgbmkfifjijoiaa
open Go
set_option linter.unusedVariables false
set_option linter.unusedSimpArgs false

theorem getElem?_zrep (z : List Value) (hz : 0 < z.length) : ∀ (n i : Nat), i < n * z.length → (zrep z n)[i]? = z[i % z.length]? := by
  intro n
  induction n with
  | zero => intro i h; simp at h
  | succ n ih =>
    intro i h
    simp only [zrep, List.replicate_succ, List.flatten_cons]
    by_cases hi : i < z.length
    · rw [List.getElem?_append_left hi, Nat.mod_eq_of_lt hi]
    · rw [List.getElem?_append_right (by omega)]
      have := ih (i - z.length) (by rw [Nat.succ_mul] at h; omega)
      simp only [zrep] at this
      rw [this, Nat.mod_eq_sub_mod (by omega : z.length ≤ i)]

theorem length_zrep (z : List Value) (n : Nat) : (zrep z n).length = n * z.length := by
  simp [zrep, List.length_flatten]

theorem zrow_eq (z : List Value) (n : Nat) : (Array.range (n * z.length)).map (fun i => (⟨z⟩ : Array Value)[i % (⟨z⟩ : Array Value).size]!) = (⟨zrep z n⟩ : Array Value) := by
  apply Array.ext'
  apply List.ext_getElem?
  intro i
  by_cases hi : i < n * z.length
  · have hz : 0 < z.length := by
      rcases Nat.eq_zero_or_pos z.length with h0 | h0
      · rw [h0] at hi; simp at hi
      · exact h0
    have hm : i % z.length < z.length := Nat.mod_lt _ hz
    rw [getElem?_zrep z hz n i hi]
    simp [hi, hm, List.getElem?_eq_getElem]
  · rw [List.getElem?_eq_none (by simp; omega), List.getElem?_eq_none (by rw [length_zrep]; omega)]

theorem foldl_setR (off : Nat) : ∀ (vs : List Value) (k : Nat) (cells : Array Value),
    (vs.zipIdx k).foldl (fun cs (p : Value × Nat) => cs.setIfInBounds (off + p.2) p.1) cells = setR cells (off + k) vs := by
  intro vs
  induction vs with
  | nil => intro k cells; simp [setR]
  | cons v r ih => intro k cells; simp only [List.zipIdx_cons, List.foldl_cons, setR]; rw [ih]; congr 1

theorem fill_step (cells vs : Array Value) (off : Nat) (h : off + vs.size ≤ cells.size) :
    vs.zipIdx.foldl (fun cs (p : Value × Nat) => cs.setIfInBounds (off + p.2) p.1) cells = (cells.toList.take off ++ vs.toList ++ cells.toList.drop (off + vs.size)).toArray := by
  rw [← Array.foldl_toList, Array.toList_zipIdx, foldl_setR off vs.toList 0 cells, Nat.add_zero, setR_eq cells vs.toList off cells (by simpa using h)]
  simp

theorem fillP_run {P : Program} {len : Nat} {place : Nat → Option (Nat × TypeId)} {place' : Nat → Option (Nat × Nat)} (hp : ∀ i ot, place i = some ot → place' i = some (ot.1, P.cellsOf ot.2)) :
    ∀ (parts : List (Nat × Value)) (cells : List Value) (K : List Value → Prop), cells.length = len → fillP P len place parts cells K →
      ∃ cs, cs.length = len ∧ K cs ∧ Instr.fill place' ⟨cells⟩ parts = some ⟨cs⟩ := by
  intro parts
  induction parts with
  | nil => intro cells K hl h; exact ⟨cells, hl, h, rfl⟩
  | cons p r ih =>
    obtain ⟨i, v⟩ := p
    intro cells K hl h
    simp only [fillP] at h
    obtain ⟨⟨off, t⟩, hpl, h⟩ := on_spec h
    simp only at h
    cases hb : Nat.ble (off + P.cellsOf t) len with
    | false => simp [hb] at h
    | true =>
    rw [hb, cond_true] at h
    have hle : off + P.cellsOf t ≤ len := Nat.le_of_ble_eq_true hb
    have step : ∀ vs : List Value, v.cells = ⟨vs⟩ → vs.length = P.cellsOf t → fillP P len place r (cells.take off ++ vs ++ cells.drop (off + P.cellsOf t)) K →
        ∃ cs, cs.length = len ∧ K cs ∧ Instr.fill place' ⟨cells⟩ ((i, v) :: r) = some ⟨cs⟩ := by
      intro vs hv hn h
      obtain ⟨cs, h1, h2, h3⟩ := ih _ K (by simp; omega) h
      refine ⟨cs, h1, h2, ?_⟩
      have hg : ¬ ((vs.length != P.cellsOf t) || decide (off + vs.length > cells.length)) = true := by simp [hn]; omega
      simp only [Instr.fill, hp _ _ hpl, hv, List.size_toArray]
      rw [if_neg (by simp [hn]; omega)]
      have hf := fill_step ⟨cells⟩ ⟨vs⟩ off (by simp; omega)
      simp only [List.size_toArray] at hf
      rw [show (fun (cs : Array Value) (x : Value × Nat) => match x with | (c, j) => cs.setIfInBounds (off + j) c) = (fun cs (p : Value × Nat) => cs.setIfInBounds (off + p.2) p.1) from rfl, hf, hn]
      exact h3
    cases hu : P.underlying t with
    | none => simp [hu] at h
    | some d =>
      rw [hu] at h
      have keyN : (aggP v fun vs => vs.length = P.cellsOf t ∧ fillP P len place r (cells.take off ++ vs ++ cells.drop (off + P.cellsOf t)) K) →
          ∃ cs, cs.length = len ∧ K cs ∧ Instr.fill place' ⟨cells⟩ ((i, v) :: r) = some ⟨cs⟩ := by
        intro h
        obtain ⟨vs, e, hn, h⟩ := aggP_spec h
        exact step vs (by rw [e]; rfl) hn h
      have key : (bif Nat.beq (P.cellsOf t) 1 then oneP v (fillP P len place r (cells.take off ++ [v] ++ cells.drop (off + 1)) K) else False) →
          ∃ cs, cs.length = len ∧ K cs ∧ Instr.fill place' ⟨cells⟩ ((i, v) :: r) = some ⟨cs⟩ := by
        intro h
        cases hc : Nat.beq (P.cellsOf t) 1 with
        | false => simp [hc] at h
        | true =>
          rw [hc, cond_true] at h
          obtain ⟨h1, h⟩ := oneP_spec h
          have hc : P.cellsOf t = 1 := Nat.eq_of_beq_eq_true hc
          exact step [v] (cells_one h1) (by simp [hc]) (by rw [hc]; exact h)
      cases d <;> simp only at h <;> first
        | exact keyN h
        | exact key h

theorem run_mapM_list {α β : Type} {P : Program} {f : α → Sem β} {g : α → β} : ∀ (l : List α), (∀ x ∈ l, ∀ w, (f x).run P w = .ok (g x) w) → ∀ w, (l.mapM f).run P w = .ok (l.map g) w := by
  intro l
  induction l with
  | nil => intro _ w; rfl
  | cons x r ih =>
    intro h w
    rw [List.mapM_cons]
    simp only [Sem.run_bind, h x (by simp) w, Result.andThen_ok, ih (fun y hy => h y (by simp [hy])) w, Sem.run_pure, List.map_cons]

theorem run_mapM {α β : Type} {P : Program} {f : α → Sem β} {g : α → β} (l : Array α) (h : ∀ x ∈ l.toList, ∀ w, (f x).run P w = .ok (g x) w) (w : World) : (l.mapM f).run P w = .ok (l.map g) w := by
  rw [Array.mapM_eq_mapM_toList]
  simp only [Sem.run_map, run_mapM_list l.toList h w, Result.andThen_ok]
  congr 1
  apply Array.ext'
  simp

theorem run_sizeOf_info {P : Program} {t : TypeId} (h : (P.info? t).isSome = true) (w : World) : (sizeOf t).run P w = .ok (P.cellsOf t) w := by
  obtain ⟨i, hi⟩ := Option.isSome_iff_exists.1 h
  simp [sizeOf, typeInfo, hi, Program.cellsOf]

theorem buildP_run {P : Program} {t : TypeId} {parts : List (Nat × Value)} {K : Value → Prop} (hb : buildP P t parts K) :
    ∃ r, K r ∧ ∀ w, (Instr.build t ⟨parts⟩).run P w = .ok r w := by
  unfold buildP at hb
  obtain ⟨z, hz, hb⟩ := on_spec hb
  obtain ⟨i, v, hi, hv, hvc, hsz⟩ := zeroOf_spec hz
  split at hb
  · rename_i fs hu
    cases ha : fs.toList.all (fun f => (P.info? f.type).isSome) with
    | false => simp [ha] at hb
    | true =>
    rw [ha, cond_true] at hb
    rw [List.all_eq_true] at ha
    obtain ⟨cs, _, hk, hf⟩ := fillP_run (P := P) (place' := fun i => (fs.map fun f => (f.offset, P.cellsOf f.type))[i]?) (by
      intro i ot h
      unfold placeS at h
      split at h
      · rename_i f hf
        cases h
        simp only [Array.getElem?_map]
        rw [show fs[i]? = some f by rw [← hf, Array.getElem?_toList]]
        rfl
      · cases h) parts z _ rfl hb
    refine ⟨_, hk, fun w => ?_⟩
    have hm := run_mapM (P := P) (f := fun f : Field => do pure (f.offset, ← sizeOf f.type)) (g := fun f => (f.offset, P.cellsOf f.type)) fs
      (fun f hf w => by simp [run_sizeOf_info (ha f hf)]) w
    simp only [Instr.build, Sem.run_bind, run_zeroValue' hi hv, Result.andThen_ok, run_underlying hu, hm, hvc, hf, Sem.run_pure]
  · rename_i n e hu
    cases ha : (P.info? e).isSome with
    | false => simp [ha] at hb
    | true =>
    rw [ha, cond_true] at hb
    obtain ⟨cs, _, hk, hf⟩ := fillP_run (P := P) (place' := fun i => some (i * P.cellsOf e, P.cellsOf e)) (by
      intro i ot h; cases h; rfl) parts z _ rfl hb
    refine ⟨_, hk, fun w => ?_⟩
    simp only [Instr.build, Sem.run_bind, run_zeroValue' hi hv, Result.andThen_ok, run_underlying hu, run_sizeOf_info ha, hvc, hf, Sem.run_pure]
  · exact hb.elim

theorem allocP_run {P : Program} {e : TypeId} {h : H} {K : Value → H → Prop} (hb : allocP P e h K) (w : World) (hs : Sub h w) :
    ∃ r h' w', K r h' ∧ (Instr.alloc e true (.tuple #[])).run P w = .ok r w' ∧ Sub h' w' ∧ Stp h w h' w' := by
  unfold allocP at hb
  obtain ⟨z, hz, hb⟩ := on_spec hb
  obtain ⟨i, v, hi, hv, hvc, hsz⟩ := zeroOf_spec hz
  obtain ⟨hk, hs'⟩ := newP_run (P := P) hb w hs
  refine ⟨_, _, _, hk, ?_, hs', hs.put_stp _⟩
  simp [Instr.alloc, run_zeroValue' hi hv, newVar, newRow, hvc]

theorem boxP_run {P : Program} {e : TypeId} {v : Value} {h : H} {K : Value → H → Prop} (hb : boxP e v h K) (w : World) (hs : Sub h w) :
    ∃ r h' w', K r h' ∧ (Instr.box e v).run P w = .ok r w' ∧ Sub h' w' ∧ Stp h w h' w' := by
  unfold boxP at hb
  obtain ⟨hk, hs'⟩ := newP_run (P := P) hb w hs
  refine ⟨_, _, _, hk, ?_, hs', hs.put_stp _⟩
  simp [Instr.box, newVar, newRow, cellsV_eq]

theorem range0 {α : Type} (f : Nat → α) : (Array.range 0).map f = #[] := by
  apply Array.ext'; simp

theorem buildSliceP_run {P : Program} {t : TypeId} {len : Nat} {parts : List (Nat × Value)} {h : H} {K : Value → H → Prop} (hb : buildSliceP P t len parts h K) (w : World) (hs : Sub h w) :
    ∃ r h' w', K r h' ∧ (Instr.buildSlice t len ⟨parts⟩).run P w = .ok r w' ∧ Sub h' w' ∧ Stp h w h' w' := by
  unfold buildSliceP at hb
  split at hb
  · rename_i e hu
    obtain ⟨z, hz, hb⟩ := on_spec hb
    obtain ⟨i, v, hi, hv, hvc, hsz⟩ := zeroOf_spec hz
    cases hc : (Nat.beq z.length (P.cellsOf e) && Nat.ble (len * P.cellsOf e) (2 ^ 24)) with
    | false => rw [hc] at hb; exact hb.elim
    | true =>
    rw [hc, cond_true] at hb
    simp only [Bool.and_eq_true] at hc
    have hzl : z.length = P.cellsOf e := Nat.eq_of_beq_eq_true hc.1
    have hle : len * P.cellsOf e ≤ 2 ^ 24 := Nat.le_of_ble_eq_true hc.2
    obtain ⟨cs, _, hk, hf⟩ := fillP_run (P := P) (place' := fun i => some (i * P.cellsOf e, P.cellsOf e)) (by
      intro i ot h; cases h; rfl) parts (zrep z len) _ (by rw [length_zrep, hzl]) hb
    obtain ⟨hk, hs'⟩ := newP_run (P := P) hk w hs
    refine ⟨_, _, _, hk, ?_, hs', hs.put_stp _⟩
    have hrow := zrow_eq z len
    rw [hzl] at hrow
    by_cases h0 : len * P.cellsOf e = 0
    · have hrow0 : (⟨zrep z len⟩ : Array Value) = #[] := by rw [← hrow, h0]; exact range0 _
      rw [hrow0] at hf
      simp [Instr.buildSlice, run_underlying hu, run_sizeOf_info (show (P.info? e).isSome = true by simp [hi]), h0, range0, hf, newRow]
    · simp only [Instr.buildSlice, Sem.run_bind, run_underlying hu, Result.andThen_ok, run_sizeOf_info (show (P.info? e).isSome = true by simp [hi]), gt_iff_lt, show ¬ (2 ^ 24 < len * P.cellsOf e) by omega, if_false, h0, Sem.run_pure, run_zeroValue' hi hv, hvc, hrow, hf, newRow, run_newObj, pure_bind]
  · exact hb.elim

theorem makeSliceP_run {P : Program} {t : TypeId} {l c : Value} {h : H} {K : Value → H → Prop} (hb : makeSliceP P t l c h K) (w : World) (hs : Sub h w) :
    ∃ r h' w', K r h' ∧ (Instr.makeSlice t l c).run P w = .ok r w' ∧ Sub h' w' ∧ Stp h w h' w' := by
  unfold makeSliceP at hb
  split at hb
  · rename_i e hu
    obtain ⟨z, hz, hb⟩ := on_spec hb
    obtain ⟨i, v, hi, hv, hvc, hsz⟩ := zeroOf_spec hz
    cases hc : Nat.beq z.length (P.cellsOf e) with
    | false => rw [hc] at hb; exact hb.elim
    | true =>
    rw [hc, cond_true] at hb
    obtain ⟨k1, l, e1, hb1⟩ := intP_spec hb
    obtain ⟨k2, c, e2, h0, h1, h2, h3, hb2⟩ := intP_spec hb1
    clear hb hb1
    subst e1; subst e2
    have hzl : z.length = P.cellsOf e := Nat.eq_of_beq_eq_true hc
    obtain ⟨hk, hs'⟩ := newP_run (P := P) hb2 w hs
    refine ⟨_, _, _, hk, ?_, hs', hs.put_stp _⟩
    have hrow := zrow_eq z c.toNat
    rw [hzl] at hrow
    have hby : P.bytesOf e = i.bytes := by simp [Program.bytesOf, hi]
    have wl : IntKind.i64.wrap l = l := by simp [IntKind.wrap, IntKind.bits, IntKind.signed]; omega
    have wc : IntKind.i64.wrap c = c := by simp [IntKind.wrap, IntKind.bits, IntKind.signed]; omega
    have hbc : ¬ ((i.bytes : Int) * c > 2 ^ 48) := by rw [← hby, Int.mul_comm]; omega
    have hsi : (sizeOf e).run P { w with drawn := w.drawn } = .ok (P.cellsOf e) w := run_sizeOf_info (show (P.info? e).isSome = true by simp [hi]) w
    have hs1 : ∀ w, (sizeOf e).run P w = .ok (P.cellsOf e) w := run_sizeOf_info (show (P.info? e).isSome = true by simp [hi])
    have hz1 : ∀ w, (zeroValue e).run P w = .ok v w := run_zeroValue' hi hv
    by_cases h00 : c.toNat * P.cellsOf e = 0
    · have hrow0 : (⟨zrep z c.toNat⟩ : Array Value) = #[] := by rw [← hrow, h00]; exact range0 _
      simp [Instr.makeSlice, run_underlying hu, asInt, asIntOf, typeInfo, hi, wl, wc, hbc, show ¬ c < 0 by omega, show ¬ l < 0 by omega, show ¬ c < l by omega, hs1, h00, range0, hrow0, newRow]
      omega
    · simp only [Instr.makeSlice, run_underlying hu, asInt, asIntOf, typeInfo, hi, wl, wc, Sem.run_bind, Result.andThen_ok, Sem.run_pure, run_program, pure_bind, show ¬ c < 0 by omega, show ¬ l < 0 by omega, gt_iff_lt, show ¬ c < l by omega, hs1, hz1, h00, hvc, hrow, newRow, run_newObj, decide_false, Bool.false_or, Bool.or_false, run_askRoom, if_false]
      rw [if_neg (by simp; omega)]
      have hrow' : Array.map (fun x => z[x % z.length]?.getD default) (Array.range (c.toNat * P.cellsOf e)) = (⟨zrep z c.toNat⟩ : Array Value) := by simpa using hrow
      simp [h00, hs1, hz1, hvc, hrow']
  · exact hb.elim

end Go.Proofs.Ytgbmkfifjijoiaa
