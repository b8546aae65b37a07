import Derived.Test.YtgbmkfifjijoiaaK15
/-! New: a forest of single nodes. -/
namespace Go.Proofs.Ytgbmkfifjijoiaa
open Go
set_option linter.unusedVariables false

theorem Ext.kp {h h' : H} (x : Ext h h') (b : Nat) : Kp b h h' := fun k o _ e => x k o e
theorem Ext.trans' {a b c : H} (x : Ext a b) (y : Ext b c) : Ext a c := fun k o e => y k o (x k o e)
/-- What keeps all but a block that was not known keeps all. -/
theorem Ext.of_kp {h1 h2 h3 : H} {b : Nat} (x : Ext h1 h2) (k : Kp b h2 h3) (hb : h1 b = none) : Ext h1 h3 := fun j o e =>
  k j o (by rintro rfl; rw [hb] at e; cases e) (x j o e)

theorem ints_zrep (n : Nat) : zrep [.int .i64 0] n = ints n fun _ => 0 := by
  unfold zrep ints
  induction n with
  | zero => rfl
  | succ n ih => rw [List.replicate_succ', List.range_succ, List.flatten_append, ih, List.map_append]; rfl
theorem flat_rep {z : List Value} {k : Nat} (hz : z = ints k fun _ => 0) (n : Nat) : zrep z n = recs n k fun _ _ => 0 := by
  unfold recs
  rw [← ints_zrep, hz, ← ints_zrep]
  unfold zrep
  induction n with
  | zero => simp
  | succ n ih =>
    rw [List.replicate_succ', List.flatten_append, ih, Nat.add_mul, Nat.one_mul, ← List.replicate_append_replicate (n := n * k) (m := k), List.flatten_append]
    simp

/-- One record anew. -/
def updR (st : Nat → Nat → Int) (v : Nat) (r : Nat → Int) : Nat → Nat → Int := fun w j => if w = v then r j else st w j
theorem fp_setN {h0 : H} {b e n k : Nat} {st : Nat → Nat → Int} {v : Nat} {r : Nat → Int} (hv : v < n) :
    hset (fp h0 b e n k st) ((bk b).add (v * k)) (ints k r) = fp h0 b e n k (updR st v r) := by
  have hle : v * k + k ≤ n * k := by
    calc v * k + k = (v + 1) * k := by rw [Nat.add_mul]; omega
      _ ≤ n * k := Nat.mul_le_mul_right _ hv
  rw [bk_add]
  funext b'
  unfold hset
  by_cases hb : b' = b
  · subst hb
    rw [if_pos rfl, fp_at, fp_at]
    simp only [Option.map_some]
    rw [setR_list _ _ _ (by rw [ints_length, recs_length]; exact hle)]
    congr 3
    have hlen : (List.take (v * k) (recs n k st) ++ ints k r ++ List.drop (v * k + (ints k r).length) (recs n k st)).length = (recs n k (updR st v r)).length := by
      simp only [List.length_append, List.length_take, List.length_drop, ints_length, recs_length]
      omega
    refine List.ext_getElem? fun i => ?_
    by_cases hi : i < n * k
    · have e2 : (recs n k (updR st v r))[i]? = some (.int .i64 (updR st v r (i / k) (i % k))) := ints_get hi
      have e1 : (recs n k st)[i]? = some (.int .i64 (st (i / k) (i % k))) := ints_get hi
      have hk : 0 < k := by
        rcases Nat.eq_zero_or_pos k with h | h
        · subst h; omega
        · exact h
      rw [e2]
      rw [List.getElem?_append, List.getElem?_append]
      simp only [List.length_append, List.length_take, ints_length, recs_length]
      have hdm := Nat.div_add_mod i k
      have hmod := Nat.mod_lt i hk
      unfold updR
      by_cases h1 : i < v * k
      · have hq : i / k ≠ v := by
          intro hq
          rw [hq, Nat.mul_comm] at hdm
          omega
        rw [if_pos (by omega), if_pos (by omega), List.getElem?_take, if_pos h1, e1, if_neg hq]
      · by_cases h2 : i < v * k + k
        · have hq : i / k = v := by
            apply Nat.div_eq_of_lt_le
            · omega
            · rw [Nat.add_mul]; omega
          have hr : i % k = i - v * k := by rw [hq, Nat.mul_comm] at hdm; omega
          rw [if_pos (by omega), if_neg (by omega), if_pos hq]
          rw [show i - min (v * k) (n * k) = i - v * k by omega, ints_get (by omega), hr]
        · have hq : i / k ≠ v := by
            intro hq
            rw [hq, Nat.mul_comm] at hdm
            omega
          rw [if_neg (by omega), List.getElem?_drop, if_neg hq]
          rw [show v * k + k + (i - (min (v * k) (n * k) + k)) = i by omega, e1]
    · rw [List.getElem?_eq_none (by rw [hlen, recs_length]; omega), List.getElem?_eq_none (by rw [recs_length]; omega)]
  · rw [if_neg hb, fp_ne hb, fp_ne hb]

theorem fp_wrN {h0 : H} {b e n k : Nat} {st : Nat → Nat → Int} {v : Nat} (hv : v < n) : hwr (fp h0 b e n k st) ((bk b).add (v * k)) k := by
  rw [bk_add]
  refine ⟨_, _, fp_at .., rfl, ?_⟩
  have hle : v * k + k ≤ n * k := by
    calc v * k + k = (v + 1) * k := by rw [Nat.add_mul]; omega
      _ ≤ n * k := Nat.mul_le_mul_right _ hv
  simpa [recs_length] using hle
/-- A new block, seen from outside. -/
theorem new_put {h : H} {o : Obj} {K : Nat → H → Prop} (k : ∀ b g, h b = none → Ext h g → g b = some o → K b g) : newP h o K := fun b hb =>
  k b _ hb (Ext.put hb o) (by simp [hput])

def newSt (i : Nat) : St := fun w j => if w < i ∧ j < 3 then -1 else 0
theorem newSt_inv (n : Nat) : Inv n (newSt n) (fun v => [v]) (fun _ => -1) (fun _ => 0) (fun _ => 0) := by
  have lo : ∀ v j, v < n → j < 3 → newSt n v j = -1 := fun v j hv hj => if_pos ⟨hv, hj⟩
  have hi : ∀ v j, 3 ≤ j → newSt n v j = 0 := fun v j hj => if_neg (by omega)
  have nc : ∀ u y : Nat, u < n → ¬ Ch (newSt n) u y := by
    intro u y hu h
    rcases h with h | h <;> rw [lo _ _ hu (by decide)] at h <;> omega
  refine ⟨?_, ?_, ?_, ?_, ?_, ?_, ?_, ?_, ?_⟩
  · intro u y hu h; exact absurd h (nc u y hu)
  · intro v hv; rw [lo _ _ hv (by decide)]; exact .inl (by omega)
  · intro v hv
    rw [lo _ _ hv (by decide), lo _ _ hv (by decide), LL_neg (by omega)]; rfl
  · intro v hv; trivial
  · intro v hv _
    exact ⟨v, [], rfl, by rw [lo _ _ hv (by decide)]⟩
  · intro v hv _; rfl
  · intro u y hu h; exact absurd h (nc u y hu)
  · intro v hv; rw [hi _ _ (by decide)]; rfl
  · intro v hv; rw [hi _ _ (by decide)]; rfl
theorem newSt_fst (n : Nat) : Fst n (fun _ => -1) (fun _ => 0) :=
  ⟨fun _ _ => .inl rfl, ⟨fun _ => 0, fun v u _ h => by omega⟩, fun _ _ => by omega, fun _ _ _ => rfl⟩

theorem New_T (h : H) (n : Int) :
    T Try.prog F.links_New [.int .i64 n] h fun r h' => Ext h h' ∧
      (((n < 0 ∨ 1024 < n) ∧ r = .ret (.tuple ⟨[.pointer none, .int .i64 3]⟩)) ∨
       (0 ≤ n ∧ n ≤ 1024 ∧ ∃ bf bn, r = .ret (.tuple ⟨[fo bf, .int .i64 0]⟩) ∧ h bf = none ∧ h bn = none ∧ Forest h' bf bn n.toNat (fun _ => -1) (fun _ => 0))) := by
  refine E_links_New ?_
  unfold B_links_New
  refine ifP_of (fun h1 => ?_) (fun h1 => ?_)
  · exact ⟨Ext.refl _, .inl ⟨.inl (of_decide_eq_true h1), rfl⟩⟩
  have h1 := of_decide_eq_false h1
  refine ifP_of (fun h2 => ?_) (fun h2 => ?_)
  · exact ⟨Ext.refl _, .inl ⟨.inr (of_decide_eq_true h2), rfl⟩⟩
  have h2 := of_decide_eq_false h2
  obtain ⟨m, rfl⟩ : ∃ m : Nat, n = m := ⟨n.toNat, by omega⟩
  refine ⟨by omega, Int.le_refl _, by omega, by omega, ?_⟩
  refine new_put ?_
  intro b1 g1 hb1 x1 e1
  refine new_put ?_
  intro b3 g2 hb3 x2 e2
  rw [Int.toNat_natCast] at e1 e2 ⊢
  have fr : zrep [.int .i64 0, .int .i64 0, .int .i64 0, .int .i64 0, .int .i64 0, .int .i64 0] m = recs m 6 (fun _ _ => 0) := flat_rep (k := 6) rfl m
  rw [fr] at e1
  have ne : b3 ≠ b1 := by
    rintro rfl
    rw [e1] at hb3; cases hb3
  have hb3' : h b3 = none := by
    cases e : h b3 with
    | none => rfl
    | some o => rw [x1 _ _ e] at hb3; cases hb3
  have x4 : Ext h g2 := x1.trans' x2
  have z0 : newSt 0 = fun _ _ => 0 := by funext w j; exact if_neg (by omega)
  obtain ⟨ty, f4⟩ : ∃ ty, Fz g2 b3 b1 ty m (newSt 0) := ⟨_, ⟨ne, _, e2⟩, by rw [z0]; exact x2 _ _ e1⟩
  refine ⟨_, f4.hd.ld, ?_⟩
  let I9 : (Int × Unit) → H → Nat → Prop := fun s g k => ∃ i : Nat, s.1 = i ∧ i ≤ m ∧ k = m - i ∧ Ext h g ∧ Fz g b3 b1 ty m (newSt i)
  refine ⟨fun s g => ∃ k, I9 s g k, rk I9, rk_wf I9, ⟨_, 0, rfl, Nat.zero_le _, rfl, x4, f4⟩, ?_⟩
  intro s g hI
  obtain ⟨i, hi, him, hk, xg, fz⟩ := mu_spec hI
  generalize hkk : mu I9 ((s, ()), g) = k at *
  change s = (i : Int) at hi
  subst hi
  refine ifP_of (fun h0 => ?_) (fun h0 => ?_)
  · have h0 := of_decide_eq_true h0
    have him : i < m := by omega
    refine ⟨_, fz.hd.ld, nx him ⟨rfl, by simp [Value.oneCell'], ?_, ?_⟩⟩
    · have := fp_wrN (h0 := g) (b := b1) (e := ty) (k := 6) (st := newSt i) him
      rwa [fp_self fz.at_] at this
    · have := fp_setN (h0 := g) (b := b1) (e := ty) (k := 6) (st := newSt i) (r := fun j => if j < 3 then -1 else 0) him
      rw [fp_self fz.at_] at this
      have e6 : ints 6 (fun j => if j < 3 then -1 else 0) = [.int .i64 (-1), .int .i64 (-1), .int .i64 (-1), .int .i64 0, .int .i64 0, .int .i64 0] := rfl
      rw [e6] at this
      rw [this]
      have e7 : updR (newSt i) i (fun j => if j < 3 then -1 else 0) = newSt (i + 1) := by
        funext w j
        unfold updR newSt
        by_cases hw : w = i
        · subst hw
          show (if w = w then (if j < 3 then (-1 : Int) else 0) else _) = _
          by_cases hj : j < 3
          · rw [if_pos rfl, if_pos hj, if_pos ⟨by omega, hj⟩]
          · rw [if_pos rfl, if_neg hj, if_neg (fun h => hj h.2)]
        · rw [if_neg hw]
          congr 1
          exact propext ⟨fun ⟨a, b⟩ => ⟨by omega, b⟩, fun ⟨a, b⟩ => ⟨by omega, b⟩⟩
      rw [e7]
      have wi : IntKind.i64.wrap ((i : Int) + 1) = ((i + 1 : Nat) : Int) := by
        have : IntKind.i64.wrap ((i : Int) + 1) = (i : Int) + 1 := w64_in (by omega) (by omega)
        rw [this]; omega
      rw [wi]
      refine mu_next (I := I9) (k := m - (i + 1)) ⟨i + 1, rfl, him, rfl, xg.of_kp (Kp.fp (bn := b1)) hb1, fz.next⟩ (by rw [hkk, hk]; omega)
  · have h0 := of_decide_eq_false h0
    have : i = m := by omega
    subst this
    exact ⟨xg, .inr ⟨by omega, by omega, b3, b1, rfl, hb3', hb1, ⟨by omega, newSt_fst i, _, _, _, _, fz, newSt_inv i⟩⟩⟩

end Go.Proofs.Ytgbmkfifjijoiaa
