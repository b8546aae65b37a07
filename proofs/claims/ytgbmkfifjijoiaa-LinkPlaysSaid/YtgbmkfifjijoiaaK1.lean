import Derived.Test.YtgbmkfifjijoiaaV14
/-! Arrays of records of whole numbers in the heap; loops with a measure that is not in the heap. -/
namespace Go.Proofs.Ytgbmkfifjijoiaa
open Go
set_option linter.unusedVariables false

theorem bk_add (b i : Nat) : (bk b).add i = ⟨b, i, none⟩ := by
  unfold Addr.add
  split
  · rename_i h; subst h; rfl
  · simp
theorem bk_add2 (b i j : Nat) : Addr.add ⟨b, i, none⟩ j = ⟨b, i + j, none⟩ := by
  unfold Addr.add
  split
  · rename_i h; subst h; rfl
  · rfl

theorem ifP_of {b : Bool} {A B : Prop} (h1 : b = true → A) (h2 : b = false → B) : ifP b A B := by
  cases b
  · exact h2 rfl
  · exact h1 rfl

/-! ### Loops: a ghost measure -/

theorem least {P : Nat → Prop} (h : ∃ k, P k) : ∃ m, P m ∧ ∀ j, P j → m ≤ j := by
  obtain ⟨k, hk⟩ := h
  induction k using Nat.strongRecOn with
  | _ k ih =>
    by_cases e : ∃ j, j < k ∧ P j
    · obtain ⟨j, lt, hj⟩ := e
      exact ih j lt hj
    · exact ⟨k, hk, fun j hj => Nat.le_of_not_lt fun lt => e ⟨j, lt, hj⟩⟩
open Classical in
noncomputable def mu {σ : Type} (I : σ → H → Nat → Prop) (x : σ × H) : Nat :=
  if h : ∃ k, I x.1 x.2 k then Classical.choose (least h) else 0
def rk {σ : Type} (I : σ → H → Nat → Prop) (x y : σ × H) : Prop := mu I x < mu I y
theorem rk_wf {σ : Type} (I : σ → H → Nat → Prop) : WellFounded (rk I) := (measure (mu I)).wf
theorem mu_spec {σ : Type} {I : σ → H → Nat → Prop} {s : σ} {h : H} (k : ∃ k, I s h k) : I s h (mu I (s, h)) := by
  unfold mu
  rw [dif_pos k]
  exact (Classical.choose_spec (least k)).1
theorem mu_le {σ : Type} {I : σ → H → Nat → Prop} {s : σ} {h : H} {k : Nat} (i : I s h k) : mu I (s, h) ≤ k := by
  have e : ∃ k, I s h k := ⟨k, i⟩
  unfold mu
  rw [dif_pos e]
  exact (Classical.choose_spec (least e)).2 k i
theorem mu_next {σ : Type} {I : σ → H → Nat → Prop} {s s' : σ} {h h' : H} {k : Nat} (i : I s' h' k) (lt : k < mu I (s, h)) :
    (∃ k, I s' h' k) ∧ rk I (s', h') (s, h) := ⟨⟨k, i⟩, Nat.lt_of_le_of_lt (mu_le i) lt⟩

/-! ### Lists of whole numbers -/

def ints (n : Nat) (f : Nat → Int) : List Value := (List.range n).map fun i => .int .i64 (f i)
theorem ints_length (n : Nat) (f : Nat → Int) : (ints n f).length = n := by simp [ints]
theorem ints_get {n : Nat} {f : Nat → Int} {i : Nat} (h : i < n) : (ints n f)[i]? = some (.int .i64 (f i)) := by
  simp [ints, List.getElem?_map, List.getElem?_range h]
theorem ints_ext {n : Nat} {f g : Nat → Int} (h : ∀ i, i < n → f i = g i) : ints n f = ints n g := by
  unfold ints
  apply List.map_congr_left
  intro i hi
  rw [h i (List.mem_range.1 hi)]
def upd (f : Nat → Int) (i : Nat) (x : Int) : Nat → Int := fun j => if j = i then x else f j
theorem ints_set {n : Nat} {f : Nat → Int} {i : Nat} {x : Int} : (ints n f).set i (.int .i64 x) = ints n (upd f i x) := by
  apply List.ext_getElem
  · simp [ints]
  · intro j h1 h2
    simp only [ints, List.getElem_set, List.getElem_map, List.getElem_range, upd]
    by_cases e : i = j
    · subst e; simp
    · rw [if_neg e, if_neg (fun h => e h.symm)]

def recs (n k : Nat) (st : Nat → Nat → Int) : List Value := ints (n * k) fun i => st (i / k) (i % k)
def upd2 (st : Nat → Nat → Int) (v j : Nat) (x : Int) : Nat → Nat → Int := fun w i => if w = v ∧ i = j then x else st w i
theorem recs_length (n k : Nat) (st : Nat → Nat → Int) : (recs n k st).length = n * k := ints_length _ _
theorem at_lt {n k v j : Nat} (hv : v < n) (hj : j < k) : v * k + j < n * k := by
  calc v * k + j < v * k + k := by omega
    _ = (v + 1) * k := by rw [Nat.add_mul]; omega
    _ ≤ n * k := Nat.mul_le_mul_right _ hv
theorem at_div {k v j : Nat} (hj : j < k) : (v * k + j) / k = v := by
  rw [Nat.mul_comm, Nat.mul_add_div (by omega), Nat.div_eq_of_lt hj]; omega
theorem at_mod {k v j : Nat} (hj : j < k) : (v * k + j) % k = j := by
  rw [Nat.mul_comm, Nat.mul_add_mod, Nat.mod_eq_of_lt hj]
theorem recs_get {n k : Nat} {st : Nat → Nat → Int} {v j : Nat} (hv : v < n) (hj : j < k) : (recs n k st)[v * k + j]? = some (.int .i64 (st v j)) := by
  unfold recs
  rw [ints_get (at_lt hv hj), at_div hj, at_mod hj]
theorem recs_set {n k : Nat} {st : Nat → Nat → Int} {v j : Nat} {x : Int} (hv : v < n) (hj : j < k) :
    (recs n k st).set (v * k + j) (.int .i64 x) = recs n k (upd2 st v j x) := by
  unfold recs
  rw [ints_set]
  apply ints_ext
  intro i hi
  unfold upd upd2
  by_cases e : i = v * k + j
  · subst e; rw [if_pos rfl, at_div hj, at_mod hj, if_pos ⟨rfl, rfl⟩]
  · rw [if_neg e, if_neg]
    rintro ⟨rfl, rfl⟩
    apply e
    rw [Nat.mul_comm]; exact (Nat.div_add_mod i k).symm

/-! ### Blocks -/

def IA (h : H) (b e n : Nat) (f : Nat → Int) : Prop := h b = some (.cells ⟨ints n f⟩ e (0, 0))
/-- The heap h0 with an array of records at b. -/
def fp (h0 : H) (b e n k : Nat) (st : Nat → Nat → Int) : H := hput h0 b (.cells ⟨recs n k st⟩ e (0, 0))

theorem hcell_at {h : H} {b i : Nat} {c : Array Value} {e : TypeId} {f : Nat × Nat} (hb : h b = some (.cells c e f)) : hcell h ⟨b, i, none⟩ = c[i]? := by
  unfold hcell
  simp [hb]
theorem fp_at (h0 : H) (b e n k : Nat) (st : Nat → Nat → Int) : fp h0 b e n k st b = some (.cells ⟨recs n k st⟩ e (0, 0)) := by simp [fp, hput]
theorem fp_ne {h0 : H} {b e n k : Nat} {st : Nat → Nat → Int} {b' : Nat} (hb : b' ≠ b) : fp h0 b e n k st b' = h0 b' := by simp [fp, hput, hb]
theorem fp_ld {h0 : H} {b e n k : Nat} {st : Nat → Nat → Int} {v j : Nat} (hv : v < n) (hj : j < k) :
    hcell (fp h0 b e n k st) (((bk b).add (v * k)).add j) = some (.int .i64 (st v j)) := by
  rw [bk_add, bk_add2, hcell_at (fp_at ..)]
  simp only [List.getElem?_toArray]
  exact recs_get hv hj
theorem fp_wr {h0 : H} {b e n k : Nat} {st : Nat → Nat → Int} {v j : Nat} (hv : v < n) (hj : j < k) :
    hwr (fp h0 b e n k st) (((bk b).add (v * k)).add j) 1 := by
  rw [bk_add, bk_add2]
  refine ⟨_, _, fp_at .., rfl, ?_⟩
  have := at_lt hv hj
  simp only [List.size_toArray, recs_length]
  omega
theorem fp_set {h0 : H} {b e n k : Nat} {st : Nat → Nat → Int} {v j : Nat} {x : Int} (hv : v < n) (hj : j < k) :
    hset (fp h0 b e n k st) (((bk b).add (v * k)).add j) [.int .i64 x] = fp h0 b e n k (upd2 st v j x) := by
  rw [bk_add, bk_add2]
  funext b'
  unfold hset
  by_cases hb : b' = b
  · subst hb
    rw [if_pos rfl, fp_at, fp_at]
    simp only [Option.map_some, setR]
    rw [List.setIfInBounds_toArray, recs_set hv hj]
  · rw [if_neg hb, fp_ne hb, fp_ne hb]
theorem fp_fp {h0 : H} {b e n k : Nat} {st st' : Nat → Nat → Int} : fp (fp h0 b e n k st) b e n k st' = fp h0 b e n k st' := by
  funext b'
  by_cases hb : b' = b
  · subst hb; rw [fp_at, fp_at]
  · rw [fp_ne hb, fp_ne hb, fp_ne hb]

theorem setR_list : ∀ (vs l : List Value) (o : Nat), o + vs.length ≤ l.length → setR ⟨l⟩ o vs = ⟨l.take o ++ vs ++ l.drop (o + vs.length)⟩ := by
  intro vs
  induction vs with
  | nil => intro l o _; simp [setR]
  | cons v vs ih =>
    intro l o h
    simp only [List.length_cons] at h ⊢
    show setR (Array.setIfInBounds ⟨l⟩ o v) (o + 1) vs = _
    rw [List.setIfInBounds_toArray, ih (l.set o v) (o + 1) (by rw [List.length_set]; omega)]
    congr 1
    have e1 : (l.set o v).take (o + 1) = l.take o ++ [v] := by
      rw [List.take_add_one, List.take_set_of_le (Nat.le_refl o)]
      simp [List.getElem?_set]
      omega
    have e2 : (l.set o v).drop (o + 1 + vs.length) = l.drop (o + (vs.length + 1)) := by
      rw [List.drop_set_of_lt (by omega)]
      congr 1; omega
    rw [e1, e2]
    simp
theorem hset_put {h : H} {b e : Nat} {zs vs : List Value} (hl : vs.length = zs.length) :
    hset (hput h b (.cells ⟨zs⟩ e (0, 0))) (bk b) vs = hput h b (.cells ⟨vs⟩ e (0, 0)) := by
  funext k
  unfold hset hput
  by_cases hk : k = b
  · subst hk
    simp only [if_true, Option.map_some]
    rw [setR_list vs zs 0 (by omega)]
    simp [hl]
  · simp [hk]
theorem put_ld {h : H} {b e i : Nat} {vs : List Value} {v : Value} (hi : vs[i]? = some v) : hcell (hput h b (.cells ⟨vs⟩ e (0, 0))) ((bk b).add i) = some v := by
  rw [bk_add, hcell_at (c := ⟨vs⟩) (e := e) (f := (0, 0)) (by simp [hput]), List.getElem?_toArray]
  exact hi
theorem put_cells {h : H} {b e : Nat} {vs : List Value} : hcells (hput h b (.cells ⟨vs⟩ e (0, 0))) (bk b) vs := fun _ _ hi => put_ld hi
theorem put_wr {h : H} {b e n i : Nat} {vs : List Value} (hn : i + n ≤ vs.length) : hwr (hput h b (.cells ⟨vs⟩ e (0, 0))) ((bk b).add i) n := by
  rw [bk_add]
  exact ⟨⟨vs⟩, e, by simp [hput], rfl, by simpa using hn⟩

end Go.Proofs.Ytgbmkfifjijoiaa
