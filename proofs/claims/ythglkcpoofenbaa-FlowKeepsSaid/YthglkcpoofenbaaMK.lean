import Derived.IntWalk
import Derived.Test.YthglkcpoofenbaaMV
import Derived.Test.YthglkcpoofenbaaML
/-! Arrays of records of whole numbers in the heap; loops with a measure that is not in the heap. -/
namespace Go.Proofs.Ythglkcpoofenbaa
open Go
set_option linter.unusedVariables false

theorem bk_add (b i : Nat) : (bk b).add i = ⟨b, i, none⟩ := by
  unfold Addr.add
  split
  · rename_i h; subst h; rfl
  · simp
theorem bk_add2 (b i j : Nat) : Addr.add ⟨b, i, none⟩ j = ⟨b, i + j, none⟩ := by
  unfold Addr.add
  split
  · rename_i h; subst h; rfl
  · rfl

theorem ifP_of {b : Bool} {A B : Prop} (h1 : b = true → A) (h2 : b = false → B) : ifP b A B := by
  cases b
  · exact h2 rfl
  · exact h1 rfl

/-! ### Loops: a ghost measure -/

theorem least {P : Nat → Prop} (h : ∃ k, P k) : ∃ m, P m ∧ ∀ j, P j → m ≤ j := by
  obtain ⟨k, hk⟩ := h
  induction k using Nat.strongRecOn with
  | _ k ih =>
    by_cases e : ∃ j, j < k ∧ P j
    · obtain ⟨j, lt, hj⟩ := e
      exact ih j lt hj
    · exact ⟨k, hk, fun j hj => Nat.le_of_not_lt fun lt => e ⟨j, lt, hj⟩⟩
open Classical in
noncomputable def mu {σ : Type} (I : σ → H → Nat → Prop) (x : σ × H) : Nat :=
  if h : ∃ k, I x.1 x.2 k then Classical.choose (least h) else 0
def rk {σ : Type} (I : σ → H → Nat → Prop) (x y : σ × H) : Prop := mu I x < mu I y
theorem rk_wf {σ : Type} (I : σ → H → Nat → Prop) : WellFounded (rk I) := (measure (mu I)).wf
theorem mu_spec {σ : Type} {I : σ → H → Nat → Prop} {s : σ} {h : H} (k : ∃ k, I s h k) : I s h (mu I (s, h)) := by
  unfold mu
  rw [dif_pos k]
  exact (Classical.choose_spec (least k)).1
theorem mu_le {σ : Type} {I : σ → H → Nat → Prop} {s : σ} {h : H} {k : Nat} (i : I s h k) : mu I (s, h) ≤ k := by
  have e : ∃ k, I s h k := ⟨k, i⟩
  unfold mu
  rw [dif_pos e]
  exact (Classical.choose_spec (least e)).2 k i
theorem mu_next {σ : Type} {I : σ → H → Nat → Prop} {s s' : σ} {h h' : H} {k : Nat} (i : I s' h' k) (lt : k < mu I (s, h)) :
    (∃ k, I s' h' k) ∧ rk I (s', h') (s, h) := ⟨⟨k, i⟩, Nat.lt_of_le_of_lt (mu_le i) lt⟩

/-! ### Lists of whole numbers -/

def ints (n : Nat) (f : Nat → Int) : List Value := (List.range n).map fun i => .int .i64 (f i)
theorem ints_length (n : Nat) (f : Nat → Int) : (ints n f).length = n := by simp [ints]
theorem ints_get {n : Nat} {f : Nat → Int} {i : Nat} (h : i < n) : (ints n f)[i]? = some (.int .i64 (f i)) := by
  simp [ints, List.getElem?_map, List.getElem?_range h]
theorem ints_ext {n : Nat} {f g : Nat → Int} (h : ∀ i, i < n → f i = g i) : ints n f = ints n g := by
  unfold ints
  apply List.map_congr_left
  intro i hi
  rw [h i (List.mem_range.1 hi)]
def upd (f : Nat → Int) (i : Nat) (x : Int) : Nat → Int := fun j => if j = i then x else f j
theorem ints_set {n : Nat} {f : Nat → Int} {i : Nat} {x : Int} : (ints n f).set i (.int .i64 x) = ints n (upd f i x) := by
  apply List.ext_getElem
  · simp [ints]
  · intro j h1 h2
    simp only [ints, List.getElem_set, List.getElem_map, List.getElem_range, upd]
    by_cases e : i = j
    · subst e; simp
    · rw [if_neg e, if_neg (fun h => e h.symm)]

def recs (n k : Nat) (st : Nat → Nat → Int) : List Value := ints (n * k) fun i => st (i / k) (i % k)
def upd2 (st : Nat → Nat → Int) (v j : Nat) (x : Int) : Nat → Nat → Int := fun w i => if w = v ∧ i = j then x else st w i
theorem recs_length (n k : Nat) (st : Nat → Nat → Int) : (recs n k st).length = n * k := ints_length _ _
theorem at_lt {n k v j : Nat} (hv : v < n) (hj : j < k) : v * k + j < n * k := by
  calc v * k + j < v * k + k := by omega
    _ = (v + 1) * k := by rw [Nat.add_mul]; omega
    _ ≤ n * k := Nat.mul_le_mul_right _ hv
theorem at_div {k v j : Nat} (hj : j < k) : (v * k + j) / k = v := by
  rw [Nat.mul_comm, Nat.mul_add_div (by omega), Nat.div_eq_of_lt hj]; omega
theorem at_mod {k v j : Nat} (hj : j < k) : (v * k + j) % k = j := by
  rw [Nat.mul_comm, Nat.mul_add_mod, Nat.mod_eq_of_lt hj]
theorem recs_get {n k : Nat} {st : Nat → Nat → Int} {v j : Nat} (hv : v < n) (hj : j < k) : (recs n k st)[v * k + j]? = some (.int .i64 (st v j)) := by
  unfold recs
  rw [ints_get (at_lt hv hj), at_div hj, at_mod hj]
theorem recs_set {n k : Nat} {st : Nat → Nat → Int} {v j : Nat} {x : Int} (hv : v < n) (hj : j < k) :
    (recs n k st).set (v * k + j) (.int .i64 x) = recs n k (upd2 st v j x) := by
  unfold recs
  rw [ints_set]
  apply ints_ext
  intro i hi
  unfold upd upd2
  by_cases e : i = v * k + j
  · subst e; rw [if_pos rfl, at_div hj, at_mod hj, if_pos ⟨rfl, rfl⟩]
  · rw [if_neg e, if_neg]
    rintro ⟨rfl, rfl⟩
    apply e
    rw [Nat.mul_comm]; exact (Nat.div_add_mod i k).symm

/-! ### Blocks -/

def IA (h : H) (b e n : Nat) (f : Nat → Int) : Prop := h b = some (.cells ⟨ints n f⟩ e (0, 0))
/-- The heap h0 with an array of records at b. -/
def fp (h0 : H) (b e n k : Nat) (st : Nat → Nat → Int) : H := hput h0 b (.cells ⟨recs n k st⟩ e (0, 0))

theorem hcell_at {h : H} {b i : Nat} {c : Array Value} {e : TypeId} {f : Nat × Nat} (hb : h b = some (.cells c e f)) : hcell h ⟨b, i, none⟩ = c[i]? := by
  unfold hcell
  simp [hb]
theorem fp_at (h0 : H) (b e n k : Nat) (st : Nat → Nat → Int) : fp h0 b e n k st b = some (.cells ⟨recs n k st⟩ e (0, 0)) := by simp [fp, hput]
theorem fp_ne {h0 : H} {b e n k : Nat} {st : Nat → Nat → Int} {b' : Nat} (hb : b' ≠ b) : fp h0 b e n k st b' = h0 b' := by simp [fp, hput, hb]
theorem fp_ld {h0 : H} {b e n k : Nat} {st : Nat → Nat → Int} {v j : Nat} (hv : v < n) (hj : j < k) :
    hcell (fp h0 b e n k st) (((bk b).add (v * k)).add j) = some (.int .i64 (st v j)) := by
  rw [bk_add, bk_add2, hcell_at (fp_at ..)]
  simp only [List.getElem?_toArray]
  exact recs_get hv hj
theorem fp_wr {h0 : H} {b e n k : Nat} {st : Nat → Nat → Int} {v j : Nat} (hv : v < n) (hj : j < k) :
    hwr (fp h0 b e n k st) (((bk b).add (v * k)).add j) 1 := by
  rw [bk_add, bk_add2]
  refine ⟨_, _, fp_at .., rfl, ?_⟩
  have := at_lt hv hj
  simp only [List.size_toArray, recs_length]
  omega
theorem fp_set {h0 : H} {b e n k : Nat} {st : Nat → Nat → Int} {v j : Nat} {x : Int} (hv : v < n) (hj : j < k) :
    hset (fp h0 b e n k st) (((bk b).add (v * k)).add j) [.int .i64 x] = fp h0 b e n k (upd2 st v j x) := by
  rw [bk_add, bk_add2]
  funext b'
  unfold hset
  by_cases hb : b' = b
  · subst hb
    rw [if_pos rfl, fp_at, fp_at]
    simp only [Option.map_some, setR]
    rw [List.setIfInBounds_toArray, recs_set hv hj]
  · rw [if_neg hb, fp_ne hb, fp_ne hb]
theorem fp_fp {h0 : H} {b e n k : Nat} {st st' : Nat → Nat → Int} : fp (fp h0 b e n k st) b e n k st' = fp h0 b e n k st' := by
  funext b'
  by_cases hb : b' = b
  · subst hb; rw [fp_at, fp_at]
  · rw [fp_ne hb, fp_ne hb, fp_ne hb]

theorem setR_list : ∀ (vs l : List Value) (o : Nat), o + vs.length ≤ l.length → setR ⟨l⟩ o vs = ⟨l.take o ++ vs ++ l.drop (o + vs.length)⟩ := by
  intro vs
  induction vs with
  | nil => intro l o _; simp [setR]
  | cons v vs ih =>
    intro l o h
    simp only [List.length_cons] at h ⊢
    show setR (Array.setIfInBounds ⟨l⟩ o v) (o + 1) vs = _
    rw [List.setIfInBounds_toArray, ih (l.set o v) (o + 1) (by rw [List.length_set]; omega)]
    congr 1
    have e1 : (l.set o v).take (o + 1) = l.take o ++ [v] := by
      rw [List.take_add_one, List.take_set_of_le (Nat.le_refl o)]
      simp [List.getElem?_set]
      omega
    have e2 : (l.set o v).drop (o + 1 + vs.length) = l.drop (o + (vs.length + 1)) := by
      rw [List.drop_set_of_lt (by omega)]
      congr 1; omega
    rw [e1, e2]
    simp
theorem hset_put {h : H} {b e : Nat} {zs vs : List Value} (hl : vs.length = zs.length) :
    hset (hput h b (.cells ⟨zs⟩ e (0, 0))) (bk b) vs = hput h b (.cells ⟨vs⟩ e (0, 0)) := by
  funext k
  unfold hset hput
  by_cases hk : k = b
  · subst hk
    simp only [if_true, Option.map_some]
    rw [setR_list vs zs 0 (by omega)]
    simp [hl]
  · simp [hk]
theorem put_ld {h : H} {b e i : Nat} {vs : List Value} {v : Value} (hi : vs[i]? = some v) : hcell (hput h b (.cells ⟨vs⟩ e (0, 0))) ((bk b).add i) = some v := by
  rw [bk_add, hcell_at (c := ⟨vs⟩) (e := e) (f := (0, 0)) (by simp [hput]), List.getElem?_toArray]
  exact hi
theorem put_cells {h : H} {b e : Nat} {vs : List Value} : hcells (hput h b (.cells ⟨vs⟩ e (0, 0))) (bk b) vs := fun _ _ hi => put_ld hi
theorem put_wr {h : H} {b e n i : Nat} {vs : List Value} (hn : i + n ≤ vs.length) : hwr (hput h b (.cells ⟨vs⟩ e (0, 0))) ((bk b).add i) n := by
  rw [bk_add]
  exact ⟨⟨vs⟩, e, by simp [hput], rfl, by simpa using hn⟩

end Go.Proofs.Ythglkcpoofenbaa

/-! The forest's small functions, each by what it does to the array of nodes. -/
namespace Go.Proofs.Ythglkcpoofenbaa
open Go
set_option linter.unusedVariables false

abbrev St := Nat → Nat → Int
abbrev w64 (x : Int) : Int := IntKind.i64.wrap x

/-- At bf lies the head of the slice of n nodes at bn. -/
def Hd (h : H) (bf bn n : Nat) : Prop := bf ≠ bn ∧ ∃ ef, h bf = some (.cells ⟨[.slice (some (bk bn)) n n]⟩ ef (0, 0))
abbrev fo (bf : Nat) : Value := .pointer (some (bk bf))
abbrev vi (v : Nat) : Value := .int .i64 (v : Int)
abbrev unit0 : Value := .tuple ⟨[]⟩

theorem Hd.fp {h0 : H} {bf bn n e k : Nat} {st : St} (hd : Hd h0 bf bn n) : Hd (fp h0 bn e n k st) bf bn n := by
  obtain ⟨ne, ef, h⟩ := hd
  exact ⟨ne, ef, by rw [fp_ne ne]; exact h⟩
theorem Hd.ld {h : H} {bf bn n : Nat} (hd : Hd h bf bn n) : hcell h ((bk bf).add 0) = some (.slice (some (bk bn)) n n) := by
  obtain ⟨ne, ef, h⟩ := hd
  rw [bk_add, hcell_at h]
  rfl
theorem nx {bn n v sz c : Nat} {K : Addr → Prop} (hv : v < n) (k : K ((bk bn).add (v * sz))) : ixS (.slice (some (bk bn)) n c) (v : Int) sz K :=
  ⟨Int.natCast_nonneg _, by omega, by rw [Int.toNat_natCast]; exact k⟩
theorem nd {h : H} {bf bn n v sz : Nat} {K : Addr → Prop} (hd : Hd h bf bn n) (hv : v < n) (k : K ((bk bn).add (v * sz))) :
    ptrP (fo bf) fun a => ldV h (a.add 0) fun x => ixS x (v : Int) sz K :=
  ⟨_, hd.ld, nx hv k⟩
/-- A pointer to a node, or less than 0. -/
def Pt (n : Nat) (c : Int) : Prop := c < 0 ∨ ∃ w : Nat, c = w ∧ w < n

def raiseS (st : St) (c d : Int) : St := if 0 ≤ c then fun w j => if w = c.toNat ∧ (j = 3 ∨ j = 4 ∨ j = 5) then w64 (st w j + d) else st w j else st
def pushS (st : St) (v : Nat) : St :=
  let s1 := raiseS st (st v 0) (st v 5)
  let s2 := raiseS s1 (s1 v 1) (s1 v 5)
  upd2 s2 v 5 0

section
variable {bf bn n e : Nat} {h0 : H} {st : St}

theorem node_T {h : H} (hd : Hd h bf bn n) (v : Int) :
    T Try.prog F.links_Forest_node [fo bf, .int .i64 v] h fun r h' => r = .ret (.bool (decide (0 ≤ v ∧ v < (n : Int)))) ∧ h = h' := by
  refine E_links_Forest_node ?_
  unfold B_links_Forest_node
  by_cases hv : 0 ≤ v
  · rw [decide_eq_true hv]
    refine ⟨_, hd.ld, ?_⟩
    refine ⟨?_, rfl⟩
    simp [hv]
  · rw [decide_eq_false hv]
    refine ⟨?_, rfl⟩
    simp [hv]

theorem label_T {h : H} (x : Int) :
    T Try.prog F.links_label [.int .i64 x] h fun r h' => r = .ret (.bool (decide (-1048576 ≤ x ∧ x ≤ 1048576))) ∧ h = h' := by
  refine E_links_label ?_
  unfold B_links_label
  by_cases hv : (-1048576) ≤ x
  · rw [decide_eq_true hv]
    exact ⟨by simp [hv], rfl⟩
  · rw [decide_eq_false hv]
    exact ⟨by simp [hv], rfl⟩

theorem raise_T (hd : Hd h0 bf bn n) {c : Int} (hc : Pt n c) (x : Int) :
    T Try.prog F.links_Forest_raise [fo bf, .int .i64 c, .int .i64 x] (fp h0 bn e n 6 st) fun r h => r = .ret unit0 ∧ h = fp h0 bn e n 6 (raiseS st c x) := by
  refine E_links_Forest_raise ?_
  unfold B_links_Forest_raise
  rcases hc with hc | ⟨v, rfl, hv⟩
  · rw [decide_eq_false (by omega)]
    exact ⟨rfl, by unfold raiseS; rw [if_neg (by omega)]⟩
  · rw [decide_eq_true (Int.natCast_nonneg v)]
    refine nd hd.fp hv ?_
    refine ⟨_, fp_ld hv (by decide), fp_wr hv (by decide), ?_⟩
    rw [fp_set hv (by decide)]
    refine ⟨_, fp_ld hv (by decide), fp_wr hv (by decide), ?_⟩
    rw [fp_set hv (by decide)]
    refine ⟨_, fp_ld hv (by decide), fp_wr hv (by decide), ?_⟩
    rw [fp_set hv (by decide)]
    refine ⟨rfl, ?_⟩
    congr 1
    unfold raiseS
    rw [if_pos (Int.natCast_nonneg v), Int.toNat_natCast]
    funext w j
    unfold upd2
    by_cases e1 : w = v
    · subst e1
      by_cases e2 : j = 3
      · subst e2; simp [w64]
      · by_cases e3 : j = 4
        · subst e3; simp [w64]
        · by_cases e4 : j = 5
          · subst e4; simp [w64]
          · simp [e2, e3, e4]
    · simp [e1]

theorem raiseS_link {st : St} {c x : Int} {w j : Nat} (hj : j < 3) : raiseS st c x w j = st w j := by
  unfold raiseS
  split
  · show (if w = c.toNat ∧ (j = 3 ∨ j = 4 ∨ j = 5) then _ else _) = _
    rw [if_neg]; omega
  · rfl

theorem push_T (hd : Hd h0 bf bn n) {v : Nat} (hv : v < n) (hl : Pt n (st v 0)) (hr : Pt n (st v 1)) :
    T Try.prog F.links_Forest_push [fo bf, vi v] (fp h0 bn e n 6 st) fun r h => r = .ret unit0 ∧ h = fp h0 bn e n 6 (pushS st v) := by
  refine E_links_Forest_push ?_
  unfold B_links_Forest_push
  refine nd hd.fp hv ?_
  refine ⟨_, fp_ld hv (by decide), _, fp_ld hv (by decide), ?_⟩
  refine (raise_T hd hl _).mono ?_
  rintro _ _ ⟨rfl, rfl⟩
  refine ⟨rfl, ?_⟩
  refine ⟨_, fp_ld hv (by decide), _, fp_ld hv (by decide), ?_⟩
  refine (raise_T hd (by rw [raiseS_link (by decide)]; exact hr) _).mono ?_
  rintro _ _ ⟨rfl, rfl⟩
  refine ⟨rfl, fp_wr hv (by decide), ?_⟩
  rw [fp_set hv (by decide)]
  exact ⟨rfl, rfl⟩

def topS (st : St) (v : Nat) : Bool := decide (st v 2 < 0) || (decide (st (st v 2).toNat 0 ≠ v) && decide (st (st v 2).toNat 1 ≠ v))

theorem top_T (hd : Hd h0 bf bn n) {v : Nat} (hv : v < n) (hu : Pt n (st v 2)) :
    T Try.prog F.links_Forest_top [fo bf, vi v] (fp h0 bn e n 6 st) fun r h => r = .ret (.bool (topS st v)) ∧ h = fp h0 bn e n 6 st := by
  refine E_links_Forest_top ?_
  unfold B_links_Forest_top
  refine nd hd.fp hv ?_
  refine ⟨_, fp_ld hv (by decide), ?_⟩
  rcases hu with hc | ⟨u, hu, hun⟩
  · rw [decide_eq_true hc]
    refine ⟨?_, rfl⟩
    simp [topS, hc]
  · rw [hu, decide_eq_false (by omega)]
    refine nd hd.fp hun ?_
    refine ⟨_, fp_ld hun (by decide), ?_⟩
    dsimp only
    by_cases e : st u 0 = v
    · rw [decide_eq_true e]
      refine ⟨?_, rfl⟩
      have : ¬ (u : Int) < 0 := by omega
      simp [topS, hu, e, this]
    · rw [decide_eq_false e]
      refine nd hd.fp hun ?_
      refine ⟨_, fp_ld hun (by decide), ?_⟩
      refine ⟨?_, rfl⟩
      have : ¬ (u : Int) < 0 := by omega
      simp [topS, hu, e, this]

/-- The least of a node's value and of what its subtrees have. -/
def least3 (st : St) (v : Nat) : Int :=
  let a := st v 3
  let b := if 0 ≤ st v 0 then (if st (st v 0).toNat 4 < a then st (st v 0).toNat 4 else a) else a
  if 0 ≤ st v 1 then (if st (st v 1).toNat 4 < b then st (st v 1).toNat 4 else b) else b
def pullS (st : St) (v : Nat) : St := upd2 st v 4 (least3 st v)

/-- A child of v, or less than 0. -/
def Pc (n v : Nat) (c : Int) : Prop := c < 0 ∨ ∃ w : Nat, c = w ∧ w < n ∧ w ≠ v
theorem Pc.pt {n v : Nat} {c : Int} (h : Pc n v c) : Pt n c := h.imp id fun ⟨w, e, lt, _⟩ => ⟨w, e, lt⟩

def lstep (st : St) (c a : Int) : Int := if 0 ≤ c then (if st c.toNat 4 < a then st c.toNat 4 else a) else a
theorem least3_eq (st : St) (v : Nat) : least3 st v = lstep st (st v 1) (lstep st (st v 0) (st v 3)) := rfl

theorem pull_T (hd : Hd h0 bf bn n) {v : Nat} (hv : v < n) (hl : Pc n v (st v 0)) (hr : Pc n v (st v 1)) :
    T Try.prog F.links_Forest_pull [fo bf, vi v] (fp h0 bn e n 6 st) fun r h => r = .ret unit0 ∧ h = fp h0 bn e n 6 (pullS st v) := by
  refine E_links_Forest_pull ?_
  unfold B_links_Forest_pull
  refine nd hd.fp hv ?_
  refine ⟨_, fp_ld hv (by decide), fp_wr hv (by decide), ?_⟩
  rw [fp_set hv (by decide)]
  refine ⟨_, fp_ld hv (by decide), _, fp_ld hv (by decide), ?_⟩
  rw [show upd2 st v 4 (st v 3) v 0 = st v 0 by simp [upd2], show upd2 st v 4 (st v 3) v 1 = st v 1 by simp [upd2]]
  refine ⟨fun s h => (s.1 = 0 ∧ h = fp h0 bn e n 6 (upd2 st v 4 (st v 3))) ∨ (s.1 = 1 ∧ h = fp h0 bn e n 6 (upd2 st v 4 (lstep st (st v 0) (st v 3)))) ∨ (s.1 = 2 ∧ h = fp h0 bn e n 6 (pullS st v)),
    InvImage (· < ·) fun x => (2 - x.1.1).toNat, InvImage.wf _ Nat.lt_wfRel.wf, .inl ⟨rfl, rfl⟩, ?_⟩
  have key : ∀ c a, Pc n v c → ∀ K : H → Prop, K (fp h0 bn e n 6 (upd2 st v 4 (lstep st c a))) → ∀ K2 : Prop, (c < 0 → K2) →
      ifP (decide (0 ≤ c)) (ptrP (fo bf) fun a13 =>
        ldI (fp h0 bn e n 6 (upd2 st v 4 a)) (((bk bn).add (v * 6)).add 4) .i64 fun x14 =>
        ldV (fp h0 bn e n 6 (upd2 st v 4 a)) (a13.add 0) fun x15 =>
        ixS x15 c 6 fun a16 =>
        ldI (fp h0 bn e n 6 (upd2 st v 4 a)) (a16.add 4) .i64 fun x17 =>
        stC (fp h0 bn e n 6 (upd2 st v 4 a)) (((bk bn).add (v * 6)).add 4) (.int .i64 (if x17 < x14 then x17 else x14)) fun h18 => K h18) K2 := by
    intro c a hc K k K2 k2
    refine ifP_of (fun h => ?_) (fun h => k2 (by have := of_decide_eq_false h; omega))
    rcases hc with hc | ⟨w, rfl, hw, ne⟩
    · have := of_decide_eq_true h; omega
    · refine ⟨_, fp_ld hv (by decide), _, hd.fp.ld, ?_⟩
      refine nx hw ?_
      refine ⟨_, fp_ld hw (by decide), fp_wr hv (by decide), ?_⟩
      rw [fp_set hv (by decide)]
      have e2 : upd2 (upd2 st v 4 a) v 4 (if upd2 st v 4 a w 4 < upd2 st v 4 a v 4 then upd2 st v 4 a w 4 else upd2 st v 4 a v 4) = upd2 st v 4 (lstep st (w : Int) a) := by
        have e3 : upd2 st v 4 a w 4 = st w 4 := by unfold upd2; rw [if_neg (fun h => ne h.1)]
        have e4 : upd2 st v 4 a v 4 = a := by unfold upd2; rw [if_pos ⟨rfl, rfl⟩]
        rw [e3, e4]
        unfold lstep
        rw [if_pos (Int.natCast_nonneg w), Int.toNat_natCast]
        funext x j
        unfold upd2
        split <;> rfl
      rw [e2]
      exact k
  have nolow : ∀ c a, c < 0 → lstep st c a = a := by
    intro c a hc
    unfold lstep
    rw [if_neg (by omega)]
  rintro s h (⟨rfl, rfl⟩ | ⟨rfl, rfl⟩ | ⟨rfl, rfl⟩)
  · refine ⟨by decide, by decide, _, rfl, ?_⟩
    refine key _ _ hl _ ?_ _ ?_
    · exact ⟨.inr (.inl ⟨rfl, rfl⟩), by show (1 : Nat) < 2; decide⟩
    · intro hc
      exact ⟨.inr (.inl ⟨rfl, by rw [nolow _ _ hc]⟩), by show (1 : Nat) < 2; decide⟩
  · refine ⟨by decide, by decide, _, rfl, ?_⟩
    refine key _ _ hr _ ?_ _ ?_
    · exact ⟨.inr (.inr ⟨rfl, rfl⟩), by show (0 : Nat) < 1; decide⟩
    · intro hc
      exact ⟨.inr (.inr ⟨rfl, by unfold pullS; rw [least3_eq, nolow _ _ hc]⟩), by show (0 : Nat) < 1; decide⟩
  · exact ⟨rfl, rfl⟩

end
end Go.Proofs.Ythglkcpoofenbaa

/-! rotate, by what it does to the array of nodes. -/
namespace Go.Proofs.Ythglkcpoofenbaa
open Go
set_option linter.unusedVariables false

def rot1 (st : St) (v u : Nat) : St :=
  if topS st u then st else if st (st u 2).toNat 0 = u then upd2 st (st u 2).toNat 0 v else upd2 st (st u 2).toNat 1 v
def rot2 (st : St) (v u : Nat) : St := upd2 (upd2 st v 2 (st u 2)) u 2 v
def inner (st : St) (v u : Nat) : Int := if st u 0 = v then st v 1 else st v 0
def rot3 (st : St) (v u : Nat) : St :=
  if st u 0 = v then upd2 (upd2 st u 0 (st v 1)) v 1 u else upd2 (upd2 st u 1 (st v 0)) v 0 u
def rot4 (st : St) (c : Int) (u : Nat) : St := if 0 ≤ c then upd2 st c.toNat 2 u else st
def rotL (st : St) (v u : Nat) : St :=
  let s2 := rot2 (rot1 st v u) v u
  rot4 (rot3 s2 v u) (inner s2 v u) u
def rotateS (st : St) (v u : Nat) : St := pullS (pullS (rotL st v u) u) v

section
variable {bf bn n e : Nat} {h0 : H} {st : St}

theorem rotate_T (hd : Hd h0 bf bn n) {v u : Nat} (hv : v < n) (hun : u < n) (ne : v ≠ u) (hu : st v 2 = u) (hg : Pt n (st u 2))
    (hi : Pt n (inner (rot2 (rot1 st v u) v u) v u))
    (p1 : Pc n u (rotL st v u u 0)) (p2 : Pc n u (rotL st v u u 1)) (p3 : Pc n v (rotL st v u v 0)) (p4 : Pc n v (rotL st v u v 1)) :
    T Try.prog F.links_Forest_rotate [fo bf, vi v] (fp h0 bn e n 6 st) fun r h => r = .ret unit0 ∧ h = fp h0 bn e n 6 (rotateS st v u) := by
  refine E_links_Forest_rotate ?_
  unfold B_links_Forest_rotate
  refine nd hd.fp hv ?_
  refine ⟨_, fp_ld hv (by decide), ?_⟩
  rw [hu]
  refine ⟨_, hd.fp.ld, ?_⟩
  refine nx hv ?_
  refine ⟨_, hd.fp.ld, ?_⟩
  refine nx hun ?_
  refine ⟨fun _ h => h = fp h0 bn e n 6 (rot1 st v u), ?_, ?_⟩
  · refine (top_T hd hun hg).mono ?_
    rintro _ _ ⟨rfl, rfl⟩
    refine ⟨_, rfl, ?_⟩
    refine ifP_of (fun h => ?_) (fun h => ?_)
    · have h' : topS st u = false := by simpa using h
      rcases hg with hg | ⟨g, hg, hgn⟩
      · simp [topS, hg] at h'
      · refine ⟨_, hd.fp.ld, _, fp_ld hun (by decide), ?_⟩
        rw [hg]
        refine nx hgn ?_
        refine ⟨_, fp_ld hgn (by decide), ?_⟩
        have e1 : rot1 st v u = if st g 0 = u then upd2 st g 0 v else upd2 st g 1 v := by
          unfold rot1; rw [h', hg, Int.toNat_natCast]; rfl
        rw [e1]
        refine ifP_of (fun h2 => ?_) (fun h2 => ?_)
        · refine ⟨fp_wr hgn (by decide), ?_⟩
          rw [fp_set hgn (by decide), if_pos (of_decide_eq_true h2)]
        · refine ⟨fp_wr hgn (by decide), ?_⟩
          rw [fp_set hgn (by decide), if_neg (of_decide_eq_false h2)]
    · have h' : topS st u = true := by simpa using h
      show _ = _
      unfold rot1
      rw [h']; rfl
  · rintro _ rfl
    refine ⟨_, fp_ld hun (by decide), fp_wr hv (by decide), ?_⟩
    rw [fp_set hv (by decide)]
    refine ⟨fp_wr hun (by decide), ?_⟩
    rw [fp_set hun (by decide)]
    show ∃ J28 : (Int × Unit) → H → Prop, _
    have hs : upd2 (upd2 (rot1 st v u) v 2 (rot1 st v u u 2)) u 2 ((v : Nat) : Int) = rot2 (rot1 st v u) v u := rfl
    rw [hs]
    generalize hs2 : rot2 (rot1 st v u) v u = s2 at *
    refine ⟨fun x h => x.1 = inner s2 v u ∧ h = fp h0 bn e n 6 (rot3 s2 v u), ?_, ?_⟩
    · refine ⟨_, fp_ld hun (by decide), ?_⟩
      refine ifP_of (fun h2 => ?_) (fun h2 => ?_)
      · have h2 := of_decide_eq_true h2
        refine ⟨_, fp_ld hv (by decide), _, fp_ld hv (by decide), fp_wr hun (by decide), ?_⟩
        rw [fp_set hun (by decide)]
        refine ⟨fp_wr hv (by decide), ?_⟩
        rw [fp_set hv (by decide)]
        exact ⟨by unfold inner; rw [if_pos h2], by unfold rot3; rw [if_pos h2]⟩
      · have h2 := of_decide_eq_false h2
        refine ⟨_, fp_ld hv (by decide), _, fp_ld hv (by decide), fp_wr hun (by decide), ?_⟩
        rw [fp_set hun (by decide)]
        refine ⟨fp_wr hv (by decide), ?_⟩
        rw [fp_set hv (by decide)]
        exact ⟨by unfold inner; rw [if_neg h2], by unfold rot3; rw [if_neg h2]⟩
    · rintro c _ ⟨rfl, rfl⟩
      have e4 : rotL st v u = rot4 (rot3 s2 v u) (inner s2 v u) u := by unfold rotL; rw [hs2]
      have fin : ∀ s, s = rotL st v u → T Try.prog F.links_Forest_pull [fo bf, vi u] (fp h0 bn e n 6 s) (rt (fun v44 h45 =>
          v44 = .tuple ⟨[]⟩ ∧ T Try.prog F.links_Forest_pull [fo bf, vi v] h45 (rt (fun v46 h47 => v46 = .tuple ⟨[]⟩ ∧
            ((Res.ret (.tuple ⟨[]⟩) = Res.ret unit0) ∧ h47 = fp h0 bn e n 6 (rotateS st v u)))
            (fun v48 h49 => Res.pan v48 = Res.ret unit0 ∧ h49 = fp h0 bn e n 6 (rotateS st v u)))) (fun v48 h49 => Res.pan v48 = Res.ret unit0 ∧ h49 = fp h0 bn e n 6 (rotateS st v u))) := by
        rintro s rfl
        refine (pull_T hd hun p1 p2).mono ?_
        rintro _ _ ⟨rfl, rfl⟩
        refine ⟨rfl, ?_⟩
        have q : ∀ k, k < 3 → pullS (rotL st v u) u v k = rotL st v u v k := by
          intro k hk
          unfold pullS upd2
          rw [if_neg (fun h => ne h.1)]
        refine (pull_T hd hv (by rw [q _ (by decide)]; exact p3) (by rw [q _ (by decide)]; exact p4)).mono ?_
        rintro _ _ ⟨rfl, rfl⟩
        exact ⟨rfl, rfl, rfl⟩
      refine ifP_of (fun h2 => ?_) (fun h2 => ?_)
      · have h2 := of_decide_eq_true h2
        rcases hi with hi | ⟨w, hi, hw⟩
        · omega
        · rw [hi]
          refine nd hd.fp hw ?_
          refine ⟨fp_wr hw (by decide), ?_⟩
          rw [fp_set hw (by decide)]
          refine fin _ ?_
          rw [e4, hi]
          unfold rot4
          rw [if_pos (Int.natCast_nonneg w), Int.toNat_natCast]
      · have h2 := of_decide_eq_false h2
        refine fin _ ?_
        rw [e4]
        unfold rot4
        rw [if_neg h2]

end
end Go.Proofs.Ythglkcpoofenbaa

/-! What the array of nodes means: splay trees that hold ways of a forest. No program in sight. -/
namespace Go.Proofs.Ythglkcpoofenbaa
open Go
set_option linter.unusedVariables false

/-! ### Ways -/

def Chn (par : Nat → Int) : List Nat → Prop
  | a :: b :: l => par b = a ∧ Chn par (b :: l)
  | _ => True
theorem Chn.tail {par : Nat → Int} {a : Nat} {l : List Nat} (h : Chn par (a :: l)) : Chn par l := by
  cases l with
  | nil => trivial
  | cons b l => exact h.2
theorem Chn.append {par : Nat → Int} {l1 l2 : List Nat} : Chn par (l1 ++ l2) ↔ Chn par l1 ∧ Chn par l2 ∧ ∀ a b, l1.getLast? = some a → l2.head? = some b → par b = a := by
  induction l1 with
  | nil => simp [Chn]
  | cons x l ih =>
    cases l with
    | nil =>
      cases l2 with
      | nil => simp [Chn]
      | cons b l2 =>
        simp only [List.cons_append, List.nil_append, Chn]
        constructor
        · rintro ⟨h1, h2⟩
          exact ⟨trivial, h2, fun a c ha hc => by simp at ha hc; subst ha; subst hc; exact h1⟩
        · rintro ⟨_, h2, h3⟩
          exact ⟨h3 x b rfl rfl, h2⟩
    | cons y l =>
      simp only [List.cons_append, Chn] at ih ⊢
      rw [ih]
      simp only [List.getLast?_cons_cons]
      exact ⟨fun ⟨a, b, c, d⟩ => ⟨⟨a, b⟩, c, d⟩, fun ⟨⟨a, b⟩, c, d⟩ => ⟨a, b, c, d⟩⟩

def mn (tv : Nat → Int) : List Nat → Int
  | [] => 9223372036854775808
  | a :: l => min (tv a) (mn tv l)
theorem mn_append (tv : Nat → Int) (l1 l2 : List Nat) : mn tv (l1 ++ l2) = min (mn tv l1) (mn tv l2) ∨ (∃ a ∈ l1 ++ l2, 9223372036854775808 ≤ tv a) := by
  induction l1 with
  | nil =>
    by_cases h : ∃ a ∈ l2, 9223372036854775808 ≤ tv a
    · exact .inr h
    · left
      have : mn tv l2 ≤ 9223372036854775808 := by
        cases l2 with
        | nil => exact Int.le_refl _
        | cons b l =>
          have : tv b < 9223372036854775808 := by
            apply Int.lt_of_not_ge
            intro k; exact h ⟨b, List.mem_cons_self .., k⟩
          simp only [mn]; omega
      simp only [List.nil_append, mn]; omega
  | cons x l ih =>
    rcases ih with ih | ⟨a, ha, k⟩
    · left; simp only [List.cons_append, mn, ih]; omega
    · right; exact ⟨a, by rw [List.cons_append]; exact List.mem_cons_of_mem _ ha, k⟩

/-- The forest: each node's parent (or -1), and the value above it. -/
structure Fst (n : Nat) (par tv : Nat → Int) : Prop where
  pt : ∀ v, v < n → par v = -1 ∨ ∃ u : Nat, par v = u ∧ u < n
  acy : ∃ d : Nat → Nat, ∀ v u : Nat, v < n → par v = u → d u < d v
  rng : ∀ v, v < n → -9223372036854775808 ≤ tv v ∧ tv v < 9223372036854775808
  zero : ∀ v, v < n → par v = -1 → tv v = 0

def LL (L : Nat → List Nat) (c : Int) : List Nat := if 0 ≤ c then L c.toNat else []
theorem LL_nat (L : Nat → List Nat) (c : Nat) : LL L c = L c := by simp [LL]
theorem LL_neg {L : Nat → List Nat} {c : Int} (h : c < 0) : LL L c = [] := by unfold LL; rw [if_neg (by omega)]

/-- y is a child of u in a splay tree. -/
def Ch (st : St) (u y : Nat) : Prop := st u 0 = y ∨ st u 1 = y
def Top (st : St) (v : Nat) : Prop := ∀ u : Nat, st v 2 = u → ¬ Ch st u v
theorem topS_iff {st : St} {v : Nat} : topS st v = true ↔ Top st v := by
  unfold topS Top Ch
  by_cases h : st v 2 < 0
  · simp [h]
    intro u hu; omega
  · simp [h]
    constructor
    · intro ⟨h1, h2⟩ u hu
      rw [hu] at h1 h2
      exact ⟨h1, h2⟩
    · intro k
      exact k (st v 2).toNat (by omega)
theorem topS_false {st : St} {v : Nat} (h : topS st v = false) : ∃ u : Nat, st v 2 = u ∧ Ch st u v := by
  have : ¬ Top st v := fun t => by rw [topS_iff.2 t] at h; cases h
  unfold Top at this
  apply Classical.byContradiction
  intro k
  exact this fun u hu hc => k ⟨u, hu, hc⟩

structure Inv (n : Nat) (st : St) (L : Nat → List Nat) (par tv pd : Nat → Int) : Prop where
  ch : ∀ u y : Nat, u < n → Ch st u y → y < n ∧ st y 2 = u
  up : ∀ v, v < n → Pt n (st v 2)
  ino : ∀ v, v < n → L v = LL L (st v 0) ++ v :: LL L (st v 1)
  chn : ∀ v, v < n → Chn par (L v)
  hd : ∀ v, v < n → Top st v → ∃ a l, L v = a :: l ∧ par a = st v 2
  pdt : ∀ v, v < n → Top st v → pd v = 0
  pdc : ∀ u y : Nat, u < n → Ch st u y → w64 (pd y) = w64 (pd u + st u 5)
  val : ∀ v, v < n → st v 3 = w64 (tv v - pd v)
  lst : ∀ v, v < n → st v 4 = w64 (mn tv (L v) - pd v)

section
variable {n : Nat} {st : St} {L : Nat → List Nat} {par tv pd : Nat → Int}

theorem Inv.self (I : Inv n st L par tv pd) {v : Nat} (hv : v < n) : v ∈ L v := by
  rw [I.ino v hv]; simp
theorem Inv.sub (I : Inv n st L par tv pd) {u y x : Nat} (hu : u < n) (h : Ch st u y) (hx : x ∈ L y) : x ∈ L u := by
  rw [I.ino u hu]
  rcases h with h | h <;> rw [h, LL_nat] <;> simp [hx]
theorem Inv.len (I : Inv n st L par tv pd) {u y : Nat} (hu : u < n) (h : Ch st u y) : (L y).length < (L u).length := by
  rw [I.ino u hu]
  rcases h with h | h <;> rw [h, LL_nat] <;> simp <;> omega
theorem Inv.ind (I : Inv n st L par tv pd) {P : Nat → Prop} (h : ∀ v, v < n → (∀ c, Ch st v c → P c) → P v) : ∀ v, v < n → P v := by
  have : ∀ k v, v < n → (L v).length ≤ k → P v := by
    intro k
    induction k with
    | zero => intro v hv hk; exact absurd (I.self hv) (by rw [List.eq_nil_of_length_eq_zero (l := L v) (by omega)]; simp)
    | succ k ih =>
      intro v hv hk
      refine h v hv fun c hc => ih c (I.ch v c hv hc).1 ?_
      have := I.len hv hc
      omega
  exact fun v hv => this _ v hv (Nat.le_refl _)
theorem Inv.mem (I : Inv n st L par tv pd) {v x : Nat} (hv : v < n) : x ∈ L v ↔ x = v ∨ ∃ c, Ch st v c ∧ x ∈ L c := by
  constructor
  · intro h
    rw [I.ino v hv] at h
    simp only [List.mem_append, List.mem_cons] at h
    have key : ∀ c : Int, x ∈ LL L c → ∃ w : Nat, c = w ∧ x ∈ L w := by
      intro c hc
      by_cases h0 : 0 ≤ c
      · refine ⟨c.toNat, by omega, ?_⟩
        unfold LL at hc
        rwa [if_pos h0] at hc
      · rw [LL_neg (by omega)] at hc
        cases hc
    rcases h with h | h | h
    · obtain ⟨w, e, hw⟩ := key _ h
      exact .inr ⟨w, .inl e, hw⟩
    · exact .inl h
    · obtain ⟨w, e, hw⟩ := key _ h
      exact .inr ⟨w, .inr e, hw⟩
  · rintro (rfl | ⟨c, hc, hx⟩)
    · exact I.self hv
    · exact I.sub hv hc hx
theorem Inv.lt (I : Inv n st L par tv pd) : ∀ v, v < n → ∀ x ∈ L v, x < n := by
  refine I.ind fun v hv ih x hx => ?_
  rcases (I.mem hv).1 hx with rfl | ⟨c, hc, hx⟩
  · exact hv
  · exact ih c hc x hx
/-- Who stands above a node in its splay tree. -/
theorem Inv.anc (I : Inv n st L par tv pd) : ∀ w, w < n → ∀ y ∈ L w, y = w ∨ ∃ u : Nat, st y 2 = u ∧ u < n ∧ Ch st u y ∧ u ∈ L w := by
  refine I.ind fun w hw ih y hy => ?_
  rcases (I.mem hw).1 hy with rfl | ⟨c, hc, hx⟩
  · exact .inl rfl
  · right
    rcases ih c hc y hx with rfl | ⟨u, hu, hun, hcu, huc⟩
    · exact ⟨w, (I.ch w y hw hc).2, hw, hc, I.self hw⟩
    · exact ⟨u, hu, hun, hcu, I.sub hw hc huc⟩
theorem Inv.cmp (I : Inv n st L par tv pd) {b : Nat} (hb : b < n) : ∀ a, a < n → ∀ y, y ∈ L a → y ∈ L b → a ∈ L b ∨ b ∈ L a := by
  refine I.ind fun a ha ih y hya hyb => ?_
  rcases (I.mem ha).1 hya with rfl | ⟨c, hc, hx⟩
  · exact .inl hyb
  · rcases ih c hc y hx hyb with h | h
    · rcases I.anc b hb c h with rfl | ⟨u, hu, hun, hcu, hub⟩
      · exact .inr (I.sub ha hc (I.self (I.ch a c ha hc).1))
      · have := (I.ch a c ha hc).2
        have e : u = a := by omega
        subst e
        exact .inl hub
    · exact .inr (I.sub ha hc h)
theorem Inv.mlen (I : Inv n st L par tv pd) : ∀ w, w < n → ∀ y ∈ L w, y = w ∨ (L y).length < (L w).length := by
  refine I.ind fun w hw ih y hy => ?_
  rcases (I.mem hw).1 hy with rfl | ⟨c, hc, hx⟩
  · exact .inl rfl
  · right
    have := I.len hw hc
    rcases ih c hc y hx with rfl | h
    · exact this
    · omega
theorem Inv.mtrans (I : Inv n st L par tv pd) : ∀ w, w < n → ∀ y ∈ L w, ∀ x ∈ L y, x ∈ L w := by
  refine I.ind fun w hw ih y hy x hx => ?_
  rcases (I.mem hw).1 hy with rfl | ⟨c, hc, hy⟩
  · exact hx
  · exact I.sub hw hc (ih c hc y hy x hx)

theorem Chn.pair {par : Nat → Int} {d : Nat → Nat} {n : Nat} (hd : ∀ v u : Nat, v < n → par v = u → d u < d v) :
    ∀ {l : List Nat}, Chn par l → (∀ x ∈ l, x < n) → l.Pairwise fun a b => d a < d b := by
  intro l
  induction l with
  | nil => intro _ _; exact List.Pairwise.nil
  | cons a l ih =>
    intro h hl
    have ih := ih h.tail (fun x hx => hl x (List.mem_cons_of_mem _ hx))
    refine List.Pairwise.cons ?_ ih
    cases l with
    | nil => intro b hb; cases hb
    | cons b l =>
      have h1 : d a < d b := hd b a (hl b (by simp)) h.1
      intro c hc
      rcases List.mem_cons.1 hc with rfl | hc
      · exact h1
      · have := (List.pairwise_cons.1 ih).1 c hc
        omega
theorem short {n : Nat} : ∀ {l : List Nat}, l.Nodup → (∀ x ∈ l, x < n) → l.length ≤ n := by
  induction n with
  | zero =>
    intro l _ h
    cases l with
    | nil => simp
    | cons a l => exact absurd (h a (by simp)) (by omega)
  | succ n ih =>
    intro l hn h
    have h1 := ih (hn.erase n) (fun x hx => by
      have := (hn.mem_erase_iff).1 hx
      have := h x this.2
      omega)
    by_cases hm : n ∈ l
    · rw [List.length_erase_of_mem hm] at h1; omega
    · rw [List.erase_of_not_mem hm] at h1; omega
theorem Inv.nodup (I : Inv n st L par tv pd) (F : Fst n par tv) {v : Nat} (hv : v < n) : (L v).Nodup := by
  obtain ⟨d, hd⟩ := F.acy
  refine (Chn.pair hd (I.chn v hv) (I.lt v hv)).imp ?_
  intro a b h e
  subst e
  omega
theorem Inv.short (I : Inv n st L par tv pd) (F : Fst n par tv) {v : Nat} (hv : v < n) : (L v).length ≤ n :=
  Go.Proofs.Ythglkcpoofenbaa.short (I.nodup F hv) (I.lt v hv)

theorem Inv.mnEq (I : Inv n st L par tv pd) (F : Fst n par tv) {v : Nat} (hv : v < n) :
    mn tv (L v) = min (min (mn tv (LL L (st v 0))) (tv v)) (mn tv (LL L (st v 1))) := by
  have hr : ∀ a ∈ L v, tv a < 9223372036854775808 := fun a ha => (F.rng a (I.lt v hv a ha)).2
  rw [I.ino v hv] at hr ⊢
  rcases mn_append tv (LL L (st v 0)) (v :: LL L (st v 1)) with h | ⟨a, ha, k⟩
  · rw [h]; simp only [mn]; omega
  · have := hr a ha; omega
theorem Inv.mnRng (I : Inv n st L par tv pd) (F : Fst n par tv) : ∀ v, v < n → -9223372036854775808 ≤ mn tv (L v) ∧ mn tv (L v) < 9223372036854775808 := by
  have low : ∀ l : List Nat, (∀ a ∈ l, -9223372036854775808 ≤ tv a) → -9223372036854775808 ≤ mn tv l := by
    intro l
    induction l with
    | nil => intro _; simp only [mn]; omega
    | cons a l ih =>
      intro h
      have := ih (fun x hx => h x (List.mem_cons_of_mem _ hx))
      have := h a (by simp)
      simp only [mn]; omega
  intro v hv
  refine ⟨low _ fun a ha => (F.rng a (I.lt v hv a ha)).1, ?_⟩
  have := F.rng v hv
  rw [I.mnEq F hv]
  omega

end
end Go.Proofs.Ythglkcpoofenbaa

/-! What push and rotate keep. -/
namespace Go.Proofs.Ythglkcpoofenbaa
open Go
set_option linter.unusedVariables false

instance (st : St) (u y : Nat) : Decidable (Ch st u y) := inferInstanceAs (Decidable (_ ∨ _))

theorem w64_eq (x : Int) : ∃ k : Int, w64 x = x + 18446744073709551616 * k ∧ -9223372036854775808 ≤ w64 x ∧ w64 x < 9223372036854775808 := by
  have := IntKind.wrap_i64 x
  refine ⟨(w64 x - x) / 18446744073709551616, ?_⟩
  unfold w64
  omega
theorem w64_in {x : Int} (h : -9223372036854775808 ≤ x) (k : x < 9223372036854775808) : w64 x = x := by
  obtain ⟨j, hj, _⟩ := w64_eq x
  omega
theorem w64_of {a b : Int} (h : ∃ k : Int, a = b + 18446744073709551616 * k) : w64 a = w64 b := by
  obtain ⟨k, h⟩ := h
  obtain ⟨i, hi, _⟩ := w64_eq a
  obtain ⟨j, hj, _⟩ := w64_eq b
  omega
theorem w64_cg {a b : Int} : w64 a = w64 b ↔ ∃ k : Int, a = b + 18446744073709551616 * k := by
  refine ⟨fun h => ?_, w64_of⟩
  obtain ⟨i, hi, _⟩ := w64_eq a
  obtain ⟨j, hj, _⟩ := w64_eq b
  exact ⟨j - i, by omega⟩

section
variable {n : Nat} {st : St} {L : Nat → List Nat} {par tv pd : Nat → Int}

theorem Inv.lr (I : Inv n st L par tv pd) (F : Fst n par tv) {v c : Nat} (hv : v < n) (h0 : st v 0 = c) (h1 : st v 1 = c) : False := by
  have nd := I.nodup F hv
  rw [I.ino v hv, h0, h1, LL_nat] at nd
  have hc := I.self (I.ch v c hv (.inl h0)).1
  have := (List.nodup_append.1 nd).2.2 c hc c (List.mem_cons_of_mem _ hc)
  exact this rfl
theorem Inv.chNe (I : Inv n st L par tv pd) {v c : Nat} (hv : v < n) (h : Ch st v c) : c ≠ v := by
  rintro rfl
  exact Nat.lt_irrefl _ (I.len hv h)

theorem raiseS_at {c : Nat} {x : Int} (w j : Nat) : raiseS st c x w j = if w = c ∧ (j = 3 ∨ j = 4 ∨ j = 5) then w64 (st w j + x) else st w j := by
  unfold raiseS
  rw [if_pos (Int.natCast_nonneg c), Int.toNat_natCast]
theorem raiseS_neg {c x : Int} (h : c < 0) : raiseS st c x = st := by
  unfold raiseS
  rw [if_neg (by omega)]
theorem raiseS_int {c x : Int} (w j : Nat) : raiseS st c x w j = if c = w ∧ (j = 3 ∨ j = 4 ∨ j = 5) then w64 (st w j + x) else st w j := by
  unfold raiseS
  by_cases h : 0 ≤ c
  · rw [if_pos h]
    show (if w = c.toNat ∧ _ then _ else _) = _
    congr 1
    refine propext ⟨fun ⟨a, b⟩ => ⟨by omega, b⟩, fun ⟨a, b⟩ => ⟨by omega, b⟩⟩
  · rw [if_neg h, if_neg (by omega)]

theorem pushS_eq (I : Inv n st L par tv pd) (F : Fst n par tv) {v : Nat} (hv : v < n) (w j : Nat) :
    pushS st v w j = if j = 3 ∨ j = 4 then (if Ch st v w then w64 (st w j + st v 5) else st w j)
      else if j = 5 then (if w = v then 0 else if Ch st v w then w64 (st w 5 + st v 5) else st w 5) else st w j := by
  have n0 : st v 0 ≠ v := fun h => I.chNe hv (.inl h) rfl
  have n1 : st v 1 ≠ v := fun h => I.chNe hv (.inr h) rfl
  have n2 : ∀ w : Nat, ¬ (st v 0 = w ∧ st v 1 = w) := fun w h => I.lr F hv h.1 h.2
  have n2 := n2 w
  have e1 : raiseS st (st v 0) (st v 5) v 1 = st v 1 := raiseS_link (by decide)
  have e5 : raiseS st (st v 0) (st v 5) v 5 = st v 5 := by rw [raiseS_int, if_neg (fun h => n0 h.1)]
  unfold pushS
  simp only [e1, e5]
  unfold upd2
  rw [raiseS_int, raiseS_int]
  unfold Ch
  by_cases hw : w = v
  · subst hw
    simp only [n0, n1, false_and, or_false, if_false, true_and]
    by_cases j5 : j = 5
    · subst j5; simp
    · simp [j5]
  · simp only [hw, false_and, if_false]
    by_cases h0 : st v 0 = w <;> by_cases h1 : st v 1 = w
    · exact absurd ⟨h0, h1⟩ n2
    all_goals
      by_cases j3 : j = 3
      · subst j3; simp [h0, h1]
      · by_cases j4 : j = 4
        · subst j4; simp [h0, h1]
        · by_cases j5 : j = 5
          · subst j5; simp [h0, h1]
          · simp [j3, j4, j5]
theorem pushS_link (I : Inv n st L par tv pd) (F : Fst n par tv) {v : Nat} (hv : v < n) (w : Nat) {j : Nat} (hj : j < 3) : pushS st v w j = st w j := by
  rw [pushS_eq I F hv, if_neg (by omega), if_neg (by omega)]

theorem Ch.congr {st st' : St} (h : ∀ w j, j < 3 → st' w j = st w j) {u y : Nat} : Ch st' u y ↔ Ch st u y := by
  unfold Ch; rw [h u 0 (by decide), h u 1 (by decide)]
theorem Top.congr {st st' : St} (h : ∀ w j, j < 3 → st' w j = st w j) {v : Nat} : Top st' v ↔ Top st v := by
  unfold Top
  rw [h v 2 (by decide)]
  exact forall_congr' fun u => imp_congr_right fun _ => not_congr (Ch.congr h)

def pdPush (st : St) (pd : Nat → Int) (v : Nat) : Nat → Int := fun w => if Ch st v w then pd v else pd w

theorem Inv.push (I : Inv n st L par tv pd) (F : Fst n par tv) {v : Nat} (hv : v < n) : Inv n (pushS st v) L par tv (pdPush st pd v) := by
  have lk : ∀ w j, j < 3 → pushS st v w j = st w j := fun w j hj => pushS_link I F hv w hj
  have cv : ∀ y, Ch st v y → w64 (pd y) = w64 (pd v + st v 5) := fun y hy => I.pdc v y hv hy
  refine ⟨?_, ?_, ?_, I.chn, ?_, ?_, ?_, ?_, ?_⟩
  · intro u y hu h
    have := I.ch u y hu ((Ch.congr lk).1 h)
    rw [lk _ _ (by decide)]
    exact this
  · intro w hw
    rw [lk _ _ (by decide)]
    exact I.up w hw
  · intro w hw
    rw [lk _ _ (by decide), lk _ _ (by decide)]
    exact I.ino w hw
  · intro w hw h
    rw [lk _ _ (by decide)]
    exact I.hd w hw ((Top.congr lk).1 h)
  · intro w hw h
    have h := (Top.congr lk).1 h
    unfold pdPush
    rw [if_neg]
    · exact I.pdt w hw h
    · intro hc
      exact h v (I.ch v w hv hc).2 hc
  · intro u y hu h
    replace h := (Ch.congr lk).1 h
    have hy := I.ch u y hu h
    have key := I.pdc u y hu h
    rw [pushS_eq I F hv, if_neg (by decide), if_pos rfl]
    unfold pdPush
    by_cases huv : u = v
    · subst huv
      rw [if_pos h, if_pos rfl, if_neg (fun hc => I.chNe hu hc rfl), Int.add_zero]
    · have hny : ¬ Ch st v y := by
        intro hc
        have := (I.ch v y hv hc).2
        omega
      rw [if_neg hny, if_neg huv]
      by_cases hcu : Ch st v u
      · rw [if_pos hcu, if_pos hcu, key]
        have := cv u hcu
        rw [w64_cg] at this
        obtain ⟨k, hk⟩ := this
        obtain ⟨i, hi, _⟩ := w64_eq (st u 5 + st v 5)
        apply w64_of
        exact ⟨k - i, by omega⟩
      · rw [if_neg hcu, if_neg hcu]
        exact key
  · intro w hw
    rw [pushS_eq I F hv, if_pos (.inl rfl)]
    unfold pdPush
    by_cases hc : Ch st v w
    · rw [if_pos hc, if_pos hc, I.val w hw]
      have := cv w hc
      rw [w64_cg] at this
      obtain ⟨k, hk⟩ := this
      obtain ⟨i, hi, _⟩ := w64_eq (tv w - pd w)
      apply w64_of
      exact ⟨i - k, by omega⟩
    · rw [if_neg hc, if_neg hc]
      exact I.val w hw
  · intro w hw
    rw [pushS_eq I F hv, if_pos (.inr rfl)]
    unfold pdPush
    by_cases hc : Ch st v w
    · rw [if_pos hc, if_pos hc, I.lst w hw]
      have := cv w hc
      rw [w64_cg] at this
      obtain ⟨k, hk⟩ := this
      obtain ⟨i, hi, _⟩ := w64_eq (mn tv (L w) - pd w)
      apply w64_of
      exact ⟨i - k, by omega⟩
    · rw [if_neg hc, if_neg hc]
      exact I.lst w hw

end
end Go.Proofs.Ythglkcpoofenbaa

/-! What rotate keeps. -/
namespace Go.Proofs.Ythglkcpoofenbaa
open Go
set_option linter.unusedVariables false

section
variable {n : Nat} {st : St} {L : Nat → List Nat} {par tv pd : Nat → Int}

theorem rot1_eq (I : Inv n st L par tv pd) (F : Fst n par tv) {v u : Nat} (hun : u < n) {w : Nat} (hw : w < n) (j : Nat) :
    rot1 st v u w j = if j < 2 ∧ st w j = u then (v : Int) else st w j := by
  have key : j < 2 → st w j = u → st u 2 = w ∧ Ch st w u := by
    intro hj h
    have hc : Ch st w u := by
      have : j = 0 ∨ j = 1 := by omega
      rcases this with rfl | rfl
      · exact .inl h
      · exact .inr h
    exact ⟨(I.ch w u hw hc).2, hc⟩
  unfold rot1
  cases ht : topS st u with
  | true =>
    rw [if_pos rfl, if_neg]
    rintro ⟨hj, h⟩
    obtain ⟨k1, k2⟩ := key hj h
    exact topS_iff.1 ht w k1 k2
  | false =>
    rw [if_neg (by decide)]
    obtain ⟨g, hg, hcg⟩ := topS_false ht
    rw [hg, Int.toNat_natCast]
    by_cases h0 : st g 0 = u
    · rw [if_pos h0]
      unfold upd2
      by_cases e : w = g ∧ j = 0
      · rw [if_pos e, if_pos]
        obtain ⟨rfl, rfl⟩ := e
        exact ⟨by decide, h0⟩
      · rw [if_neg e, if_neg]
        rintro ⟨hj, h⟩
        obtain ⟨k1, k2⟩ := key hj h
        have ew : w = g := by omega
        subst ew
        have ej : j = 1 := by
          have : ¬ j = 0 := fun h => e ⟨rfl, h⟩
          omega
        subst ej
        exact I.lr F hw h0 h
    · rw [if_neg h0]
      have h1 : st g 1 = u := hcg.resolve_left h0
      unfold upd2
      by_cases e : w = g ∧ j = 1
      · rw [if_pos e, if_pos]
        obtain ⟨rfl, rfl⟩ := e
        exact ⟨by decide, h1⟩
      · rw [if_neg e, if_neg]
        rintro ⟨hj, h⟩
        obtain ⟨k1, k2⟩ := key hj h
        have ew : w = g := by omega
        subst ew
        have ej : j = 0 := by
          have : ¬ j = 1 := fun h => e ⟨rfl, h⟩
          omega
        subst ej
        exact h0 h

/-- s: the side of u on which v hangs; o: the other. -/
structure Side (st : St) (u v s o : Nat) : Prop where
  so : (s = 0 ∧ o = 1) ∨ (s = 1 ∧ o = 0)
  at_ : st u s = v

theorem Side.ch {st : St} {u v s o : Nat} (h : Side st u v s o) {x y : Nat} : Ch st x y ↔ st x s = y ∨ st x o = y := by
  unfold Ch
  rcases h.so with ⟨rfl, rfl⟩ | ⟨rfl, rfl⟩
  · exact Iff.rfl
  · exact Or.comm

/-- What rotate does to the pointers. -/
structure RotE (n : Nat) (st st' : St) (v u s o : Nat) : Prop where
  es : ∀ w, w < n → st' w s = if w = u then st v o else if st w s = u then (v : Int) else st w s
  eo : ∀ w, w < n → st' w o = if w = v then (u : Int) else if st w o = u then (v : Int) else st w o
  e2 : ∀ w, w < n → st' w 2 = if w = u then (v : Int) else if w = v then st u 2 else if st v o = w then (u : Int) else st w 2
  e3 : ∀ w, w < n → ∀ j, 3 ≤ j → j ≠ 4 → st' w j = st w j

theorem rotL_eq (I : Inv n st L par tv pd) (F : Fst n par tv) {v u s o : Nat} (hv : v < n) (hun : u < n) (hs : Side st u v s o) :
    RotE n st (rotL st v u) v u s o ∧ inner (rot2 (rot1 st v u) v u) v u = st v o ∧ ∀ w, w < n → rotL st v u w 4 = st w 4 := by
  have hc : Ch st u v := hs.ch.2 (.inl hs.at_)
  have ne : v ≠ u := I.chNe hun hc
  have r1 := fun w (hw : w < n) j => rot1_eq I F (v := v) hun hw j
  have nuu : ∀ j, j < 2 → st u j ≠ u := by
    intro j hj h
    have : j = 0 ∨ j = 1 := by omega
    rcases this with rfl | rfl
    · exact I.chNe hun (.inl h) rfl
    · exact I.chNe hun (.inr h) rfl
  have nvu : ∀ j, j < 2 → st v j ≠ u := by
    intro j hj h
    have hcv : Ch st v u := by
      have : j = 0 ∨ j = 1 := by omega
      rcases this with rfl | rfl
      · exact .inl h
      · exact .inr h
    have := I.len hv hcv
    have := I.len hun hc
    omega
  have nlr := I.lr F hun (c := v)
  have r2 : ∀ w, w < n → ∀ j, rot2 (rot1 st v u) v u w j = if j = 2 then (if w = u then (v : Int) else if w = v then st u 2 else st w 2) else if j < 2 ∧ st w j = u then (v : Int) else st w j := by
    intro w hw j
    unfold rot2 upd2
    rw [r1 w hw j, r1 u hun 2]
    by_cases e : j = 2
    · subst e
      simp
    · simp [e]
  have ru0 : rot2 (rot1 st v u) v u u 0 = st u 0 := by
    rw [r2 u hun]; simp [nuu 0 (by decide)]
  have ru1 : rot2 (rot1 st v u) v u u 1 = st u 1 := by
    rw [r2 u hun]; simp [nuu 1 (by decide)]
  have rv0 : rot2 (rot1 st v u) v u v 0 = st v 0 := by
    rw [r2 v hv]; simp [nvu 0 (by decide)]
  have rv1 : rot2 (rot1 st v u) v u v 1 = st v 1 := by
    rw [r2 v hv]; simp [nvu 1 (by decide)]
  have hin : inner (rot2 (rot1 st v u) v u) v u = st v o := by
    unfold inner
    rw [ru0, rv0, rv1]
    rcases hs.so with ⟨rfl, rfl⟩ | ⟨rfl, rfl⟩
    · rw [if_pos hs.at_]
    · rw [if_neg (fun h => nlr h hs.at_)]
  have r3 : ∀ w, w < n → ∀ j, rot3 (rot2 (rot1 st v u) v u) v u w j = if w = u ∧ j = s then st v o else if w = v ∧ j = o then (u : Int) else rot2 (rot1 st v u) v u w j := by
    intro w hw j
    unfold rot3
    rw [ru0, rv0, rv1]
    rcases hs.so with ⟨rfl, rfl⟩ | ⟨rfl, rfl⟩
    · rw [if_pos hs.at_]
      unfold upd2
      by_cases e1 : w = u ∧ j = 0
      · rw [if_pos e1, if_pos e1, if_neg (by omega)]
      · rw [if_neg e1, if_neg e1]
    · rw [if_neg (fun h => nlr h hs.at_)]
      unfold upd2
      by_cases e1 : w = u ∧ j = 1
      · rw [if_pos e1, if_pos e1, if_neg (by omega)]
      · rw [if_neg e1, if_neg e1]
  have r4 : ∀ w, w < n → ∀ j, rotL st v u w j = if st v o = w ∧ j = 2 then (u : Int) else rot3 (rot2 (rot1 st v u) v u) v u w j := by
    intro w hw j
    unfold rotL
    simp only [hin]
    unfold rot4
    by_cases h0 : 0 ≤ st v o
    · rw [if_pos h0]
      unfold upd2
      congr 1
      exact propext ⟨fun ⟨a, b⟩ => ⟨by omega, b⟩, fun ⟨a, b⟩ => ⟨by omega, b⟩⟩
    · rw [if_neg h0, if_neg (by omega)]
  have s2 : s < 2 ∧ o < 2 ∧ s ≠ o := by rcases hs.so with ⟨rfl, rfl⟩ | ⟨rfl, rfl⟩ <;> decide
  have nvo : st v o ≠ u := nvu o s2.2.1
  have nvv : st v o ≠ v := by
    intro h
    exact I.chNe hv (hs.ch.2 (.inr h)) rfl
  refine ⟨⟨?_, ?_, ?_, ?_⟩, hin, ?_⟩
  · intro w hw
    rw [r4 w hw, if_neg (by omega), r3 w hw, r2 w hw]
    have a1 : ¬ s = 2 := by omega
    have a2 : ¬ s = o := s2.2.2
    simp [a1, a2, s2.1]
  · intro w hw
    rw [r4 w hw, if_neg (by omega), r3 w hw, r2 w hw]
    have a1 : ¬ o = 2 := by omega
    have a2 : ¬ o = s := fun h => s2.2.2 h.symm
    simp [a1, a2, s2.2.1]
  · intro w hw
    rw [r4 w hw, r3 w hw, r2 w hw]
    have a1 : ¬ 2 = s := by omega
    have a2 : ¬ 2 = o := by omega
    simp only [a1, a2, and_false, if_false, and_true, if_true]
    by_cases e1 : w = u
    · subst e1; simp [nvo]
    · by_cases e2 : w = v
      · subst e2; simp [nvv]
      · simp [e1, e2]
  · intro w hw j hj j4
    rw [r4 w hw, if_neg (by omega), r3 w hw, if_neg (by omega), if_neg (by omega), r2 w hw, if_neg (by omega), if_neg (by omega)]
  · intro w hw
    rw [r4 w hw, if_neg (by omega), r3 w hw, if_neg (by omega), if_neg (by omega), r2 w hw, if_neg (by omega), if_neg (by omega)]

end
end Go.Proofs.Ythglkcpoofenbaa

/-! What rotate keeps: the whole. -/
namespace Go.Proofs.Ythglkcpoofenbaa
open Go
set_option linter.unusedVariables false

section
variable {n : Nat} {st : St} {L : Nat → List Nat} {par tv pd : Nat → Int}

theorem least3_ok {s : St} {L : Nat → List Nat} {tv : Nat → Int} {v : Nat} (hv : s v 3 = tv v) (hc : ∀ c : Nat, Ch s v c → s c 4 = mn tv (L c))
    (hl : L v = LL L (s v 0) ++ v :: LL L (s v 1)) (hr : ∀ a ∈ L v, tv a < 9223372036854775808) : least3 s v = mn tv (L v) := by
  rw [hl] at hr ⊢
  have hvr := hr v (by simp)
  have e : mn tv (LL L (s v 0) ++ v :: LL L (s v 1)) = min (mn tv (LL L (s v 0))) (min (tv v) (mn tv (LL L (s v 1)))) := by
    rcases mn_append tv (LL L (s v 0)) (v :: LL L (s v 1)) with h | ⟨a, ha, k⟩
    · rw [h]; rfl
    · have := hr a ha; omega
  rw [e, least3_eq]
  have key : ∀ c : Int, (∀ w : Nat, c = w → s w 4 = mn tv (L w)) → ∀ a, a < 9223372036854775808 → lstep s c a = min a (mn tv (LL L c)) := by
    intro c h a ha
    unfold lstep
    by_cases h0 : 0 ≤ c
    · rw [if_pos h0]
      have e := h c.toNat (by omega)
      rw [e]
      have : LL L c = L c.toNat := by unfold LL; rw [if_pos h0]
      rw [this]
      split <;> omega
    · rw [if_neg h0, LL_neg (by omega)]
      simp only [mn]; omega
  rw [key (s v 1) (fun w hw => hc w (.inr hw)), key (s v 0) (fun w hw => hc w (.inl hw)), hv]
  · omega
  · omega
  · rw [key (s v 0) (fun w hw => hc w (.inl hw)) _ (by omega)]; omega

theorem mn_low {tv : Nat → Int} : ∀ l : List Nat, (∀ a ∈ l, -9223372036854775808 ≤ tv a) → -9223372036854775808 ≤ mn tv l := by
  intro l
  induction l with
  | nil => intro _; simp only [mn]; omega
  | cons a l ih =>
    intro h
    have := ih (fun x hx => h x (List.mem_cons_of_mem _ hx))
    have := h a (by simp)
    simp only [mn]; omega
theorem mn_le {tv : Nat → Int} {l : List Nat} {a : Nat} (h : a ∈ l) : mn tv l ≤ tv a := by
  induction l with
  | nil => cases h
  | cons b l ih =>
    simp only [mn]
    rcases List.mem_cons.1 h with rfl | h
    · omega
    · have := ih h; omega
theorem mn_high {tv : Nat → Int} {l : List Nat} {a : Nat} (h : a ∈ l) (k : tv a < 9223372036854775808) : mn tv l < 9223372036854775808 := by
  have := mn_le (tv := tv) h
  omega

def rotLs (st : St) (L : Nat → List Nat) (v u s : Nat) : Nat → List Nat := fun w =>
  if w = v then L u else if w = u then (if s = 0 then LL L (st v 1) ++ u :: LL L (st u 1) else LL L (st u 0) ++ u :: LL L (st v 0)) else L w

theorem rotateS_ne {v u w j : Nat} (hj : j ≠ 4) : rotateS st v u w j = rotL st v u w j := by
  unfold rotateS pullS upd2
  rw [if_neg (by omega), if_neg (by omega)]

structure RotR (n : Nat) (st st' : St) (L L' : Nat → List Nat) (par tv pd : Nat → Int) (v u : Nat) : Prop where
  inv : Inv n st' L' par tv pd
  lv : L' v = L u
  lo : ∀ w, w ≠ v → w ≠ u → L' w = L w
  e5 : ∀ w, w < n → st' w 5 = st w 5
  e2 : st' v 2 = st u 2
  fr : ∀ w, w < n → w ≠ v → w ≠ u → Top st w → Top st' w ∧ st' w 2 = st w 2
  p1 : Pc n u (rotL st v u u 0)
  p2 : Pc n u (rotL st v u u 1)
  p3 : Pc n v (rotL st v u v 0)
  p4 : Pc n v (rotL st v u v 1)
  hi : Pt n (inner (rot2 (rot1 st v u) v u) v u)
  /-- v's new subtrees -/
  tops : Top st u → Top st' v

theorem Inv.rotate (I : Inv n st L par tv pd) (F : Fst n par tv) {v u s o : Nat} (hv : v < n) (hun : u < n) (hs : Side st u v s o)
    (av : st v 5 = 0) (au : st u 5 = 0) (pv : pd v = 0) (pu : pd u = 0) :
    RotR n st (rotateS st v u) L (rotLs st L v u s) par tv pd v u := by
  have hc : Ch st u v := hs.ch.2 (.inl hs.at_)
  have ne : v ≠ u := I.chNe hun hc
  obtain ⟨E, hin, e4⟩ := rotL_eq I F hv hun hs
  generalize hst : rotateS st v u = st'
  have q : ∀ w j, j ≠ 4 → st' w j = rotL st v u w j := by
    intro w j hj; rw [← hst]; exact rotateS_ne hj
  have s2 : s < 2 ∧ o < 2 ∧ s ≠ o := by rcases hs.so with ⟨rfl, rfl⟩ | ⟨rfl, rfl⟩ <;> decide
  have es : ∀ w, w < n → st' w s = if w = u then st v o else if st w s = u then (v : Int) else st w s := by
    intro w hw; rw [q _ _ (by omega)]; exact E.es w hw
  have eo : ∀ w, w < n → st' w o = if w = v then (u : Int) else if st w o = u then (v : Int) else st w o := by
    intro w hw; rw [q _ _ (by omega)]; exact E.eo w hw
  have e2 : ∀ w, w < n → st' w 2 = if w = u then (v : Int) else if w = v then st u 2 else if st v o = w then (u : Int) else st w 2 := by
    intro w hw; rw [q _ _ (by omega)]; exact E.e2 w hw
  have e3 : ∀ w, w < n → st' w 3 = st w 3 := by
    intro w hw; rw [q _ _ (by omega)]; exact E.e3 w hw 3 (by decide) (by decide)
  have e5 : ∀ w, w < n → st' w 5 = st w 5 := by
    intro w hw; rw [q _ _ (by omega)]; exact E.e3 w hw 5 (by decide) (by decide)
  have st2v : st v 2 = u := (I.ch u v hun hc).2
  have chs : ∀ {x y : Nat}, Ch st x y ↔ st x s = y ∨ st x o = y := fun {x y} => hs.ch
  have chs' : ∀ {x y : Nat}, Ch st' x y ↔ st' x s = y ∨ st' x o = y := by
    intro x y
    unfold Ch
    rcases hs.so with ⟨rfl, rfl⟩ | ⟨rfl, rfl⟩
    · exact Iff.rfl
    · exact Or.comm
  have nlr : ∀ x y : Nat, x < n → st x s = y → st x o = y → False := by
    intro x y hx h1 h2
    rcases hs.so with ⟨rfl, rfl⟩ | ⟨rfl, rfl⟩
    · exact I.lr F hx h1 h2
    · exact I.lr F hx h2 h1
  -- u is no child of v
  have nvu : ¬ Ch st v u := by
    intro h
    have := I.len hv h
    have := I.len hun hc
    omega
  have nvv : ¬ Ch st v v := fun h => I.chNe hv h rfl
  have nuu : ¬ Ch st u u := fun h => I.chNe hun h rfl
  have nuo : ¬ st u o = v := fun h => nlr u v hun hs.at_ h
  have CH : ∀ w y : Nat, w < n → Ch st' w y → y < n ∧ st' y 2 = w ∧ w64 (pd y) = w64 (pd w + st' w 5) ∧ y ≠ w := by
    intro w y hw h
    rw [e5 w hw]
    rcases chs'.1 h with h | h
    · rw [es w hw] at h
      by_cases h1 : w = u
      · subst h1
        rw [if_pos rfl] at h
        have hy := I.ch v y hv (chs.2 (.inr h))
        have y1 : y ≠ w := fun e => nvu (chs.2 (.inr (by omega)))
        have y2 : y ≠ v := fun e => nvv (chs.2 (.inr (by omega)))
        refine ⟨hy.1, by rw [e2 y hy.1, if_neg y1, if_neg y2, if_pos h], ?_, y1⟩
        rw [I.pdc v y hv (chs.2 (.inr h)), pv, av, pu, au]
      · rw [if_neg h1] at h
        by_cases h2 : st w s = u
        · rw [if_pos h2] at h
          have : y = v := by omega
          subst this
          refine ⟨hv, ?_, ?_, ?_⟩
          · rw [e2 y hv, if_neg ne, if_pos rfl]
            exact (I.ch w u hw (chs.2 (.inl h2))).2
          · rw [← I.pdc w u hw (chs.2 (.inl h2)), pv, pu]
          · rintro rfl; exact nvu (chs.2 (.inl h2))
        · rw [if_neg h2] at h
          have hcy : Ch st w y := chs.2 (.inl h)
          have hy := I.ch w y hw hcy
          have y1 : y ≠ u := by rintro rfl; exact h2 h
          have y2 : y ≠ v := by rintro rfl; omega
          have y3 : ¬ st v o = y := by
            intro k
            have := (I.ch v y hv (chs.2 (.inr k))).2
            have : w = v := by omega
            subst this
            exact nlr w y hw h k
          exact ⟨hy.1, by rw [e2 y hy.1, if_neg y1, if_neg y2, if_neg y3]; exact hy.2, I.pdc w y hw hcy, I.chNe hw hcy⟩
    · rw [eo w hw] at h
      by_cases h1 : w = v
      · subst h1
        rw [if_pos rfl] at h
        have : y = u := by omega
        subst this
        refine ⟨hun, by rw [e2 y hun, if_pos rfl], ?_, fun h => ne h.symm⟩
        rw [pu, pv, av]; rfl
      · rw [if_neg h1] at h
        by_cases h2 : st w o = u
        · rw [if_pos h2] at h
          have : y = v := by omega
          subst this
          refine ⟨hv, ?_, ?_, fun h => h1 h.symm⟩
          · rw [e2 y hv, if_neg ne, if_pos rfl]
            exact (I.ch w u hw (chs.2 (.inr h2))).2
          · rw [← I.pdc w u hw (chs.2 (.inr h2)), pv, pu]
        · rw [if_neg h2] at h
          have hcy : Ch st w y := chs.2 (.inr h)
          have hy := I.ch w y hw hcy
          have y1 : y ≠ u := by rintro rfl; exact h2 h
          have y2 : y ≠ v := by
            rintro rfl
            have : w = u := by omega
            subst this
            exact nuo h
          have y3 : ¬ st v o = y := by
            intro k
            have := (I.ch v y hv (chs.2 (.inr k))).2
            omega
          exact ⟨hy.1, by rw [e2 y hy.1, if_neg y1, if_neg y2, if_neg y3]; exact hy.2, I.pdc w y hw hcy, I.chNe hw hcy⟩
  -- the lists
  generalize hL : rotLs st L v u s = L'
  have Lv : L' v = L u := by rw [← hL]; unfold rotLs; rw [if_pos rfl]
  have Lo : ∀ w, w ≠ v → w ≠ u → L' w = L w := by
    intro w h1 h2; rw [← hL]; unfold rotLs; rw [if_neg h1, if_neg h2]
  have Lu : L' u = if s = 0 then LL L (st v 1) ++ u :: LL L (st u 1) else LL L (st u 0) ++ u :: LL L (st v 0) := by
    rw [← hL]; unfold rotLs; rw [if_neg (fun h => ne h.symm), if_pos rfl]
  have LLo : ∀ x : Int, x ≠ v → x ≠ u → LL L' x = LL L x := by
    intro x h1 h2
    unfold LL
    split
    · exact Lo _ (by omega) (by omega)
    · rfl
  have nk : ∀ w k, w < n → k < 2 → ∀ y : Nat, st w k = y → Ch st w y := by
    intro w k hw hk y h
    have : k = 0 ∨ k = 1 := by omega
    rcases this with rfl | rfl
    · exact .inl h
    · exact .inr h
  have LLw : ∀ w, w < n → w ≠ u → w ≠ v → LL L' (st' w s) = LL L (st w s) ∧ LL L' (st' w o) = LL L (st w o) := by
    intro w hw h1 h2
    rw [es w hw, eo w hw, if_neg h1, if_neg h2]
    constructor
    · by_cases h3 : st w s = u
      · rw [if_pos h3, h3, LL_nat, LL_nat, Lv]
      · rw [if_neg h3]
        refine LLo _ ?_ h3
        intro h4
        have := (I.ch w v hw (chs.2 (.inl h4))).2
        omega
    · by_cases h3 : st w o = u
      · rw [if_pos h3, h3, LL_nat, LL_nat, Lv]
      · rw [if_neg h3]
        refine LLo _ ?_ h3
        intro h4
        have := (I.ch w v hw (chs.2 (.inr h4))).2
        omega
  have vsu : st v s ≠ u := fun h => nvu (chs.2 (.inl h))
  have vou : st v o ≠ u := fun h => nvu (chs.2 (.inr h))
  have vsv : st v s ≠ v := fun h => nvv (chs.2 (.inl h))
  have vov : st v o ≠ v := fun h => nvv (chs.2 (.inr h))
  have uou : st u o ≠ u := fun h => nuu (chs.2 (.inr h))
  have evs : st' v s = st v s := by rw [es v hv, if_neg ne, if_neg vsu]
  have evo : st' v o = u := by rw [eo v hv, if_pos rfl]
  have eus : st' u s = st v o := by rw [es u hun, if_pos rfl]
  have euo : st' u o = st u o := by rw [eo u hun, if_neg (fun h => ne h.symm), if_neg uou]
  have INO : ∀ w, w < n → L' w = LL L' (st' w 0) ++ w :: LL L' (st' w 1) := by
    intro w hw
    by_cases h1 : w = v
    · subst h1
      rw [Lv, I.ino u hun]
      rcases hs.so with ⟨rfl, rfl⟩ | ⟨rfl, rfl⟩
      · rw [evs, evo, LLo _ vsv vsu, LL_nat, Lu, if_pos rfl, hs.at_, LL_nat, I.ino w hw]
        simp
      · rw [evs, evo, LLo _ vsv vsu, LL_nat, Lu, if_neg (by decide), hs.at_, LL_nat, I.ino w hw]
        simp
    · by_cases h2 : w = u
      · subst h2
        rw [Lu]
        rcases hs.so with ⟨rfl, rfl⟩ | ⟨rfl, rfl⟩
        · rw [if_pos rfl, eus, euo, LLo _ vov vou, LLo _ nuo uou]
        · rw [if_neg (by decide), eus, euo, LLo _ vov vou, LLo _ nuo uou]
      · rw [Lo w h1 h2, I.ino w hw]
        obtain ⟨k1, k2⟩ := LLw w hw h2 h1
        rcases hs.so with ⟨rfl, rfl⟩ | ⟨rfl, rfl⟩
        · rw [k1, k2]
        · rw [k1, k2]
  have TOP : ∀ w, w < n → Top st' w → (w = v ∧ Top st u) ∨ (w ≠ v ∧ w ≠ u ∧ Top st w) := by
    intro w hw ht
    by_cases h1 : w = v
    · subst h1
      refine .inl ⟨rfl, fun g hg hcg => ?_⟩
      have gn : g < n := by
        rcases I.up u hun with h | ⟨x, hx, hxn⟩
        · omega
        · have : g = x := by omega
          subst this; exact hxn
      have g1 : g ≠ u := by rintro rfl; exact nuu hcg
      have g2 : g ≠ w := by rintro rfl; exact nvu hcg
      refine ht g (by rw [e2 w hv, if_neg ne, if_pos rfl]; exact hg) (chs'.2 ?_)
      rcases chs.1 hcg with k | k
      · exact .inl (by rw [es g gn, if_neg g1, if_pos k])
      · exact .inr (by rw [eo g gn, if_neg g2, if_pos k])
    · by_cases h2 : w = u
      · subst h2
        exact absurd (chs'.2 (.inr evo)) (ht v (by rw [e2 w hun, if_pos rfl]))
      · refine .inr ⟨h1, h2, fun x hx hcx => ?_⟩
        have xn : x < n := by
          rcases I.up w hw with h | ⟨y, hy, hyn⟩
          · omega
          · have : x = y := by omega
            subst this; exact hyn
        by_cases h3 : st v o = w
        · exact ht u (by rw [e2 w hw, if_neg h2, if_neg h1, if_pos h3]) (chs'.2 (.inl (by rw [eus]; exact h3)))
        · refine ht x (by rw [e2 w hw, if_neg h2, if_neg h1, if_neg h3]; exact hx) (chs'.2 ?_)
          rcases chs.1 hcx with k | k
          · left
            have x1 : x ≠ u := by rintro rfl; have := hs.at_; omega
            rw [es x xn, if_neg x1, if_neg (by omega)]
            exact k
          · right
            have x1 : x ≠ v := by rintro rfl; exact h3 k
            rw [eo x xn, if_neg x1, if_neg (by omega)]
            exact k
  have chnu : Chn par (L' u) := by
    have hu := I.chn u hun
    rw [I.ino u hun] at hu
    rw [Lu]
    rcases hs.so with ⟨rfl, rfl⟩ | ⟨rfl, rfl⟩
    · rw [if_pos rfl]
      rw [hs.at_, LL_nat, I.ino v hv, List.append_assoc] at hu
      exact (Chn.append.1 hu).2.1.tail
    · rw [if_neg (by decide)]
      rw [hs.at_, LL_nat, I.ino v hv, ← List.cons_append, ← List.append_assoc] at hu
      exact (Chn.append.1 hu).1
  have pdz : ∀ y : Nat, Ch st v y ∨ Ch st u y → st y 4 = mn tv (L y) := by
    intro y hy
    have : y < n ∧ w64 (pd y) = w64 0 := by
      rcases hy with hy | hy
      · exact ⟨(I.ch v y hv hy).1, by rw [I.pdc v y hv hy, pv, av]; rfl⟩
      · exact ⟨(I.ch u y hun hy).1, by rw [I.pdc u y hun hy, pu, au]; rfl⟩
    obtain ⟨yn, h⟩ := this
    rw [I.lst y yn]
    obtain ⟨k, hk⟩ := w64_cg.1 h
    have r := I.mnRng F y yn
    have : w64 (mn tv (L y) - pd y) = w64 (mn tv (L y)) := w64_of ⟨-k, by omega⟩
    rw [this, w64_in r.1 r.2]
  have memU : ∀ a ∈ L' u, a ∈ L u := by
    intro a ha
    rw [Lu] at ha
    rw [I.ino u hun]
    rcases hs.so with ⟨rfl, rfl⟩ | ⟨rfl, rfl⟩
    · rw [if_pos rfl] at ha
      rw [hs.at_, LL_nat, I.ino v hv]
      simp only [List.mem_append, List.mem_cons] at ha ⊢
      rcases ha with h | h | h
      · exact .inl (.inr (.inr h))
      · exact .inr (.inl h)
      · exact .inr (.inr h)
    · rw [if_neg (by decide)] at ha
      rw [hs.at_, LL_nat, I.ino v hv]
      simp only [List.mem_append, List.mem_cons] at ha ⊢
      rcases ha with h | h | h
      · exact .inl h
      · exact .inr (.inl h)
      · exact .inr (.inr (.inl h))
  have rngU : ∀ a ∈ L u, tv a < 9223372036854775808 := fun a ha => (F.rng a (I.lt u hun a ha)).2
  have tvv : ∀ w, w < n → pd w = 0 → st w 3 = tv w := by
    intro w hw h
    rw [I.val w hw, h, Int.sub_zero, w64_in (F.rng w hw).1 (F.rng w hw).2]
  have rl : ∀ w j, j ≠ 4 → rotL st v u w j = st' w j := fun w j hj => (q w j hj).symm
  have lu : least3 (rotL st v u) u = mn tv (L' u) := by
    refine least3_ok ?_ ?_ ?_ (fun a ha => rngU a (memU a ha))
    · rw [rl _ _ (by decide), e3 u hun]; exact tvv u hun pu
    · intro c hcc
      replace hcc : Ch st' u c := by unfold Ch at hcc ⊢; rwa [rl _ _ (by decide), rl _ _ (by decide)] at hcc
      have hcn := CH u c hun hcc
      have hk : Ch st v c ∨ Ch st u c := by
        rcases chs'.1 hcc with h | h
        · exact .inl (chs.2 (.inr (by rw [← eus]; exact h)))
        · exact .inr (chs.2 (.inr (by rw [← euo]; exact h)))
      have c1 : c ≠ v := by
        rintro rfl
        rcases chs'.1 hcc with h | h
        · rw [eus] at h; exact vov h
        · rw [euo] at h; exact nuo h
      rw [e4 c hcn.1, pdz c hk, Lo c c1 hcn.2.2.2]
    · rw [rl _ _ (by decide), rl _ _ (by decide)]
      exact INO u hun
  have lv : least3 (pullS (rotL st v u) u) v = mn tv (L' v) := by
    have pk : ∀ w j, j ≠ 4 → pullS (rotL st v u) u w j = st' w j := by
      intro w j hj
      unfold pullS upd2
      rw [if_neg (by omega), rl w j hj]
    refine least3_ok ?_ ?_ ?_ (fun a ha => rngU a (by rw [Lv] at ha; exact ha))
    · rw [pk _ _ (by decide), e3 v hv]; exact tvv v hv pv
    · intro c hcc
      replace hcc : Ch st' v c := by unfold Ch at hcc ⊢; rwa [pk _ _ (by decide), pk _ _ (by decide)] at hcc
      have hcn := CH v c hv hcc
      by_cases hcu : c = u
      · subst hcu
        unfold pullS upd2
        rw [if_pos ⟨rfl, rfl⟩, lu]
      · have hk : Ch st v c := by
          rcases chs'.1 hcc with h | h
          · exact chs.2 (.inl (by rw [← evs]; exact h))
          · rw [evo] at h; omega
        unfold pullS upd2
        rw [if_neg (fun h => hcu h.1), e4 c hcn.1, pdz c (.inl hk), Lo c hcn.2.2.2 hcu]
    · rw [pk _ _ (by decide), pk _ _ (by decide)]
      exact INO v hv
  have PC : ∀ w k, w < n → k < 2 → Pc n w (rotL st v u w k) := by
    intro w k hw hk
    rw [rl _ _ (by omega)]
    by_cases h0 : 0 ≤ st' w k
    · right
      have hcc : Ch st' w (st' w k).toNat := by
        have : k = 0 ∨ k = 1 := by omega
        rcases this with rfl | rfl
        · exact .inl (by omega)
        · exact .inr (by omega)
      have := CH w _ hw hcc
      exact ⟨(st' w k).toNat, by omega, this.1, this.2.2.2⟩
    · exact .inl (by omega)
  have FR : ∀ w, w < n → w ≠ v → w ≠ u → Top st w → Top st' w ∧ st' w 2 = st w 2 := by
    intro w hw h1 h2 ht
    have h3 : ¬ st v o = w := by
      intro h
      have hcc : Ch st v w := chs.2 (.inr h)
      exact ht v (I.ch v w hv hcc).2 hcc
    have ew : st' w 2 = st w 2 := by rw [e2 w hw, if_neg h2, if_neg h1, if_neg h3]
    refine ⟨fun x hx hcx => ?_, ew⟩
    have xn : x < n := by
      rw [ew] at hx
      rcases I.up w hw with h | ⟨y, hy, hyn⟩
      · omega
      · have : x = y := by omega
        subst this; exact hyn
    rw [ew] at hx
    rcases chs'.1 hcx with k | k
    · rw [es x xn] at k
      by_cases x1 : x = u
      · rw [if_pos x1] at k; exact h3 k
      · rw [if_neg x1] at k
        by_cases x2 : st x s = u
        · rw [if_pos x2] at k; omega
        · rw [if_neg x2] at k; exact ht x hx (chs.2 (.inl k))
    · rw [eo x xn] at k
      by_cases x1 : x = v
      · rw [if_pos x1] at k; omega
      · rw [if_neg x1] at k
        by_cases x2 : st x o = u
        · rw [if_pos x2] at k; omega
        · rw [if_neg x2] at k; exact ht x hx (chs.2 (.inr k))
  refine ⟨⟨fun w y hw h => ⟨(CH w y hw h).1, (CH w y hw h).2.1⟩, ?_, INO, ?_, ?_, ?_, fun w y hw h => (CH w y hw h).2.2.1, ?_, ?_⟩, Lv, Lo, e5, ?_, FR, PC u 0 hun (by decide), PC u 1 hun (by decide), PC v 0 hv (by decide), PC v 1 hv (by decide), ?_, ?_⟩
  · intro w hw
    rw [e2 w hw]
    by_cases h1 : w = u
    · rw [if_pos h1]; exact .inr ⟨v, rfl, hv⟩
    · rw [if_neg h1]
      by_cases h2 : w = v
      · rw [if_pos h2]; exact I.up u hun
      · rw [if_neg h2]
        by_cases h3 : st v o = w
        · rw [if_pos h3]; exact .inr ⟨u, rfl, hun⟩
        · rw [if_neg h3]; exact I.up w hw
  · intro w hw
    by_cases h1 : w = v
    · subst h1; rw [Lv]; exact I.chn u hun
    · by_cases h2 : w = u
      · subst h2; exact chnu
      · rw [Lo w h1 h2]; exact I.chn w hw
  · intro w hw ht
    rcases TOP w hw ht with ⟨rfl, hu⟩ | ⟨h1, h2, hw'⟩
    · rw [Lv, e2 w hv, if_neg ne, if_pos rfl]
      exact I.hd u hun hu
    · rw [Lo w h1 h2, (FR w hw h1 h2 hw').2]
      exact I.hd w hw hw'
  · intro w hw ht
    rcases TOP w hw ht with ⟨rfl, hu⟩ | ⟨h1, h2, hw'⟩
    · exact pv
    · exact I.pdt w hw hw'
  · intro w hw
    rw [e3 w hw]; exact I.val w hw
  · intro w hw
    have f4 : st' w 4 = if w = v then least3 (pullS (rotL st v u) u) v else if w = u then least3 (rotL st v u) u else rotL st v u w 4 := by
      rw [← hst]
      unfold rotateS
      show upd2 (pullS (rotL st v u) u) v 4 _ w 4 = _
      unfold upd2
      by_cases h1 : w = v
      · rw [if_pos ⟨h1, rfl⟩, if_pos h1]
      · rw [if_neg (fun h => h1 h.1), if_neg h1]
        unfold pullS upd2
        by_cases h2 : w = u
        · rw [if_pos ⟨h2, rfl⟩, if_pos h2]
        · rw [if_neg (fun h => h2 h.1), if_neg h2]
    have z : ∀ x, x < n → x = v ∨ x = u → pd x = 0 → mn tv (L' x) = w64 (mn tv (L' x) - pd x) := by
      intro x hx hx2 h0
      have hr : ∀ a ∈ L' x, a < n := by
        intro a ha
        rcases hx2 with rfl | rfl
        · rw [Lv] at ha; exact I.lt u hun a ha
        · exact I.lt x hx a (memU a ha)
      rw [h0, Int.sub_zero, w64_in]
      · exact mn_low _ fun a ha => (F.rng a (hr a ha)).1
      · refine mn_high (a := x) ?_ (F.rng x hx).2
        rw [INO x hx]; simp
    rw [f4]
    by_cases h1 : w = v
    · rw [if_pos h1, lv, h1]; exact z v hv (.inl rfl) pv
    · rw [if_neg h1]
      by_cases h2 : w = u
      · rw [if_pos h2, lu, h2]; exact z u hun (.inr rfl) pu
      · rw [if_neg h2, e4 w hw, Lo w h1 h2]; exact I.lst w hw
  · rw [e2 v hv, if_neg ne, if_pos rfl]
  · rw [hin]
    by_cases h0 : 0 ≤ st v o
    · have hcc : Ch st v (st v o).toNat := chs.2 (.inr (by omega))
      exact .inr ⟨(st v o).toNat, by omega, (I.ch v _ hv hcc).1⟩
    · exact .inl (by omega)
  · intro ht x hx hcx
    rw [e2 v hv, if_neg ne, if_pos rfl] at hx
    have xn : x < n := by
      rcases I.up u hun with h | ⟨y, hy, hyn⟩
      · omega
      · have : x = y := by omega
        subst this; exact hyn
    rcases chs'.1 hcx with k | k
    · rw [es x xn] at k
      by_cases x1 : x = u
      · rw [if_pos x1] at k; exact vov k
      · rw [if_neg x1] at k
        by_cases x2 : st x s = u
        · exact ht x hx (chs.2 (.inl x2))
        · rw [if_neg x2] at k
          have := (I.ch x v xn (chs.2 (.inl k))).2
          omega
    · rw [eo x xn] at k
      by_cases x1 : x = v
      · rw [if_pos x1] at k; omega
      · rw [if_neg x1] at k
        by_cases x2 : st x o = u
        · exact ht x hx (chs.2 (.inr x2))
        · rw [if_neg x2] at k
          have := (I.ch x v xn (chs.2 (.inr k))).2
          have : x = u := by omega
          subst this
          exact nuo k

end
end Go.Proofs.Ythglkcpoofenbaa

/-! Turning a node to the top: the plain law. -/
namespace Go.Proofs.Ythglkcpoofenbaa
open Go
set_option linter.unusedVariables false

section
variable {n : Nat} {st : St} {L : Nat → List Nat} {par tv pd : Nat → Int}

theorem Inv.top_of_mem (I : Inv n st L par tv pd) {t x : Nat} (ht : t < n) (hx : x ∈ L t) (hT : Top st x) : x = t := by
  rcases I.anc t ht x hx with h | ⟨u, hu, _, hc, _⟩
  · exact h
  · exact absurd hc (hT u hu)
theorem not_top {st : St} {v : Nat} (h : ¬ Top st v) : ∃ u : Nat, st v 2 = u ∧ Ch st u v := by
  refine topS_false ?_
  cases e : topS st v with
  | false => rfl
  | true => exact absurd (topS_iff.1 e) h
theorem Inv.upn (I : Inv n st L par tv pd) {v u : Nat} (hv : v < n) (hu : st v 2 = u) : u < n := by
  rcases I.up v hv with h | ⟨y, hy, hyn⟩
  · omega
  · have : u = y := by omega
    subst this; exact hyn

/-- v stands in the way of which t is the top; nothing is still to be added above v. -/
structure Sp (n : Nat) (st : St) (L : Nat → List Nat) (par tv pd : Nat → Int) (v t : Nat) : Prop where
  inv : Inv n st L par tv pd
  vn : v < n
  tn : t < n
  top : Top st t
  mem : v ∈ L t
  cl : ∀ w, w < n → v ∈ L w → st w 5 = 0 ∧ pd w = 0

structure SpR (n : Nat) (st st' : St) (L L' : Nat → List Nat) (par tv pd : Nat → Int) (v t t' x y : Nat) : Prop where
  sp : Sp n st' L' par tv pd v t'
  lt : L' t' = L t
  e2 : st' t' 2 = st t 2
  fr : ∀ w, w < n → Top st w → v ∉ L w → Top st' w ∧ st' w 2 = st w 2 ∧ L' w = L w
  lx : L' x = L y
  lo : ∀ w, w ≠ x → w ≠ y → L' w = L w
  tt : t' = x ∨ t' = t
  tt2 : ¬ Top st y → t' = t

theorem Sp.rot {v t : Nat} (S : Sp n st L par tv pd v t) (F : Fst n par tv) {x : Nat} (hx : x < n) (hvx : v ∈ L x) (hxt : ¬ Top st x) :
    ∃ y L' t', y < n ∧ st x 2 = y ∧ Ch st y x ∧ x ≠ y ∧ RotR n st (rotateS st x y) L L' par tv pd x y ∧ SpR n st (rotateS st x y) L L' par tv pd v t t' x y := by
  have I := S.inv
  obtain ⟨y, hy, hc⟩ := not_top hxt
  have hyn := I.upn hx hy
  have hvy : v ∈ L y := I.sub hyn hc hvx
  have hs : ∃ s o, Side st y x s o := by
    rcases hc with h | h
    · exact ⟨0, 1, .inl ⟨rfl, rfl⟩, h⟩
    · exact ⟨1, 0, .inr ⟨rfl, rfl⟩, h⟩
  obtain ⟨s, o, hs⟩ := hs
  have R := I.rotate F hx hyn hs (S.cl x hx hvx).1 (S.cl y hyn hvy).1 (S.cl x hx hvx).2 (S.cl y hyn hvy).2
  generalize rotLs st L x y s = L' at R
  generalize hst : rotateS st x y = st' at R
  have ne : x ≠ y := I.chNe hyn hc
  have memx : v ∈ L' x := by rw [R.lv]; exact hvy
  have tcase : ∃ t', Top st' t' ∧ L' t' = L t ∧ st' t' 2 = st t 2 ∧ t' < n ∧ (t' = x ∨ t' = t) ∧ (¬ Top st y → t' = t) := by
    by_cases hty : Top st y
    · have e : y = t := by
        rcases I.cmp S.tn y hyn v hvy S.mem with h | h
        · exact I.top_of_mem S.tn h hty
        · exact (I.top_of_mem hyn h S.top).symm
      exact ⟨x, R.tops hty, by rw [R.lv, e], by rw [R.e2, e], hx, .inl rfl, fun h => absurd hty h⟩
    · have t1 : t ≠ x := by rintro rfl; exact hxt S.top
      have t2 : t ≠ y := by rintro rfl; exact hty S.top
      exact ⟨t, (R.fr t S.tn t1 t2 S.top).1, R.lo t t1 t2, (R.fr t S.tn t1 t2 S.top).2, S.tn, .inr rfl, fun _ => rfl⟩
  obtain ⟨t', h1, h2, h3, h4, h5, h6⟩ := tcase
  refine ⟨y, L', t', hyn, hy, hc, ne, by rw [hst]; exact R, ?_⟩
  rw [hst]
  refine ⟨⟨R.inv, S.vn, h4, h1, by rw [h2]; exact S.mem, ?_⟩, h2, h3, ?_, R.lv, R.lo, h5, h6⟩
  · intro w hw hvw
    rw [R.e5 w hw]
    by_cases w1 : w = x
    · subst w1; exact S.cl w hw hvx
    · by_cases w2 : w = y
      · subst w2; exact S.cl w hw hvy
      · rw [R.lo w w1 w2] at hvw; exact S.cl w hw hvw
  · intro w hw hT hvw
    have w1 : w ≠ x := by rintro rfl; exact hvw hvx
    have w2 : w ≠ y := by rintro rfl; exact hvw hvy
    exact ⟨(R.fr w hw w1 w2 hT).1, (R.fr w hw w1 w2 hT).2, R.lo w w1 w2⟩

/-- What turning v to the top comes to: W is the way, U what stands above its top. -/
structure SplayR (n : Nat) (st st' : St) (L L' : Nat → List Nat) (par tv pd' : Nat → Int) (v : Nat) : Prop where
  inv : Inv n st' L' par tv pd'
  top : Top st' v
  way : ∃ t, t < n ∧ Top st t ∧ v ∈ L t ∧ L' v = L t ∧ st' v 2 = st t 2
  a0 : st' v 5 = 0
  p0 : pd' v = 0
  fr : ∀ w, w < n → Top st w → v ∉ L w → Top st' w ∧ st' w 2 = st w 2 ∧ L' w = L w

end

/-! ### The same heap, seen as one with an array -/

def At (h : H) (bn e n : Nat) (st : St) : Prop := h bn = some (.cells ⟨recs n 6 st⟩ e (0, 0))
theorem fp_self {h : H} {bn e n : Nat} {st : St} (ha : At h bn e n st) : fp h bn e n 6 st = h := by
  funext b
  by_cases hb : b = bn
  · subst hb; rw [fp_at]; exact ha.symm
  · rw [fp_ne hb]
theorem at_fp {h : H} {bn e n : Nat} {st : St} : At (fp h bn e n 6 st) bn e n st := fp_at ..

structure Fz (h : H) (bf bn e n : Nat) (st : St) : Prop where
  hd : Hd h bf bn n
  at_ : At h bn e n st
theorem Fz.next {h : H} {bf bn e n : Nat} {st st' : St} (f : Fz h bf bn e n st) : Fz (fp h bn e n 6 st') bf bn e n st' := ⟨f.hd.fp, at_fp⟩

/-- All blocks but b that h knows, h' knows as they were. -/
def Kp (b : Nat) (h h' : H) : Prop := ∀ k o, k ≠ b → h k = some o → h' k = some o
theorem Kp.refl {b : Nat} {h : H} : Kp b h h := fun _ _ _ h => h
theorem Kp.trans {b : Nat} {h1 h2 h3 : H} (a : Kp b h1 h2) (c : Kp b h2 h3) : Kp b h1 h3 := fun k o hk h => c k o hk (a k o hk h)
theorem Kp.fp {bn e n k : Nat} {st : St} {h : H} : Kp bn h (fp h bn e n k st) := fun b o hb h => by rw [fp_ne hb]; exact h
theorem Kp.put {bn b : Nat} {h : H} {o : Obj} (hb : h b = none) : Kp bn h (hput h b o) := fun k ok hk h2 => by
  unfold hput
  split
  · rename_i e; subst e; rw [hb] at h2; cases h2
  · exact h2
theorem Hd.kp {h h' : H} {bf bn n : Nat} (hd : Hd h bf bn n) (k : Kp bn h h') : Hd h' bf bn n := by
  obtain ⟨ne, ef, h⟩ := hd
  exact ⟨ne, ef, k _ _ ne h⟩

section
variable {bf bn n e : Nat} {h : H} {st : St}
theorem push_A (f : Fz h bf bn e n st) {v : Nat} (hv : v < n) (hl : Pt n (st v 0)) (hr : Pt n (st v 1)) :
    T Try.prog F.links_Forest_push [fo bf, vi v] h fun r h' => r = .ret unit0 ∧ h' = fp h bn e n 6 (pushS st v) := by
  have := push_T (e := e) f.hd hv hl hr
  rwa [fp_self f.at_] at this
theorem top_A (f : Fz h bf bn e n st) {v : Nat} (hv : v < n) (hu : Pt n (st v 2)) :
    T Try.prog F.links_Forest_top [fo bf, vi v] h fun r h' => r = .ret (.bool (topS st v)) ∧ h = h' := by
  have := top_T (e := e) f.hd hv hu
  rw [fp_self f.at_] at this
  exact this.mono fun _ _ h => ⟨h.1, h.2.symm⟩
theorem pull_A (f : Fz h bf bn e n st) {v : Nat} (hv : v < n) (hl : Pc n v (st v 0)) (hr : Pc n v (st v 1)) :
    T Try.prog F.links_Forest_pull [fo bf, vi v] h fun r h' => r = .ret unit0 ∧ h' = fp h bn e n 6 (pullS st v) := by
  have := pull_T (e := e) f.hd hv hl hr
  rwa [fp_self f.at_] at this
theorem raise_A (f : Fz h bf bn e n st) {c : Int} (hc : Pt n c) (x : Int) :
    T Try.prog F.links_Forest_raise [fo bf, .int .i64 c, .int .i64 x] h fun r h' => r = .ret unit0 ∧ h' = fp h bn e n 6 (raiseS st c x) := by
  have := raise_T (e := e) (st := st) f.hd hc x
  rwa [fp_self f.at_] at this
theorem Fz.ld (f : Fz h bf bn e n st) {v j : Nat} (hv : v < n) (hj : j < 6) : hcell h (((bk bn).add (v * 6)).add j) = some (.int .i64 (st v j)) := by
  have := fp_ld (h0 := h) (b := bn) (e := e) (st := st) hv hj
  rwa [fp_self f.at_] at this
theorem Fz.wr (f : Fz h bf bn e n st) {v j : Nat} (hv : v < n) (hj : j < 6) : hwr h (((bk bn).add (v * 6)).add j) 1 := by
  have := fp_wr (h0 := h) (b := bn) (e := e) (st := st) hv hj
  rwa [fp_self f.at_] at this
theorem Fz.set (f : Fz h bf bn e n st) {v j : Nat} {x : Int} (hv : v < n) (hj : j < 6) :
    hset h (((bk bn).add (v * 6)).add j) [.int .i64 x] = fp h bn e n 6 (upd2 st v j x) := by
  have := fp_set (h0 := h) (b := bn) (e := e) (st := st) (x := x) hv hj
  rwa [fp_self f.at_] at this

theorem Sp.rot_A {L : Nat → List Nat} {par tv pd : Nat → Int} {v t : Nat} (f : Fz h bf bn e n st) (S : Sp n st L par tv pd v t) (Fo : Fst n par tv) {x : Nat} (hx : x < n) (hvx : v ∈ L x) (hxt : ¬ Top st x)
    {R : Res → H → Prop} (k : ∀ y L' t', y < n → st x 2 = y → Ch st y x → x ≠ y → SpR n st (rotateS st x y) L L' par tv pd v t t' x y → R (.ret unit0) (fp h bn e n 6 (rotateS st x y))) :
    T Try.prog F.links_Forest_rotate [fo bf, vi x] h R := by
  obtain ⟨y, L', t', hyn, hy, hc, ne, rr, sr⟩ := S.rot Fo hx hvx hxt
  have := rotate_T (e := e) f.hd hx hyn ne hy (S.inv.up y hyn) rr.hi rr.p1 rr.p2 rr.p3 rr.p4
  rw [fp_self f.at_] at this
  refine this.mono ?_
  rintro _ _ ⟨rfl, rfl⟩
  exact k y L' t' hyn hy hc ne sr
end

/-! ### Slices that grow -/

/-- The slice p holds vs; its block is b. -/
structure Sl (h : H) (b : Nat) (p : Value) (vs : List Value) : Prop where
  ex : ∃ c e zs, p = .slice (some (bk b)) vs.length c ∧ h b = some (.cells ⟨vs ++ zs⟩ e (0, 0)) ∧ vs.length + zs.length = c

theorem Sl.kp {h h' : H} {b b' : Nat} {p : Value} {vs : List Value} (s : Sl h b p vs) (k : Kp b' h h') (ne : b ≠ b') : Sl h' b p vs := by
  obtain ⟨c, e, zs, h1, h2, h3⟩ := s.ex
  exact ⟨c, e, zs, h1, k _ _ ne h2, h3⟩
theorem Sl.get {h : H} {b : Nat} {p : Value} {vs : List Value} (s : Sl h b p vs) {i : Nat} {v : Value} (hi : vs[i]? = some v) : hcell h ((bk b).add (i * 1)) = some v := by
  obtain ⟨c, e, zs, h1, h2, h3⟩ := s.ex
  rw [bk_add, hcell_at h2, Nat.mul_one, List.getElem?_toArray]
  have : i < vs.length := (List.getElem?_eq_some_iff.1 hi).1
  rw [List.getElem?_append_left this]
  exact hi

theorem Sl.app1 {h : H} {b bx ex : Nat} {p x z : Value} {vs : List Value} {K : Value → H → Prop} {e bytes : Nat} (s : Sl h b p vs)
    (hx : h bx = some (.cells ⟨[x]⟩ ex (0, 0))) (one : x.oneCell' = true) (hb : bytes ≤ 8) (hl : vs.length < 1000000)
    (k : ∀ b' p' h', Sl h' b' p' (vs ++ [x]) → Kp b h h' → (b' = b ∨ h b' = none) → K p' h') :
    apP p (.slice (some (bk bx)) 1 1) h 1 e bytes [z] K := by
  obtain ⟨c, eb, zs, rfl, h2, h3⟩ := s.ex
  refine ⟨[x], ⟨rfl, ?_⟩, ?_⟩
  · intro i v hi
    rw [bk_add, hcell_at hx, List.getElem?_toArray]
    exact hi
  · refine ⟨fun hle => ?_, fun hlt => ⟨?_, vs, ⟨by rw [Nat.mul_one], ?_⟩, fun cap hcap nb hnb => ?_⟩⟩
    · refine ⟨fun _ => ?_, ?_, ?_⟩
      · rw [bk_add]
        refine ⟨_, _, h2, rfl, ?_⟩
        simp only [List.size_toArray, List.length_append, List.length_singleton]
        omega
      · intro v hv
        rw [List.mem_singleton.1 hv]; exact one
      · refine k b _ _ ⟨c, eb, zs.drop 1, by simp, ?_, ?_⟩ ?_ (.inl rfl)
        · rw [bk_add]
          unfold hset
          rw [if_pos rfl, h2]
          simp only [Option.map_some, setR, Nat.mul_one]
          rw [List.setIfInBounds_toArray]
          congr 3
          cases zs with
          | nil => simp at h3; omega
          | cons z0 zs => simp
        · simp; omega
        · intro j o hj hj2
          rw [bk_add]
          unfold hset
          rw [if_neg hj]
          exact hj2
    · have := nextcap_le hlt
      calc _ ≤ (2 * (vs.length + 1) + 192) * bytes := Nat.mul_le_mul_right _ this
        _ ≤ (2 * (vs.length + 1) + 192) * 8 := Nat.mul_le_mul_left _ hb
        _ ≤ _ := by omega
    · intro i v hi
      have := s.get hi
      rwa [Nat.mul_one] at this
    · refine k nb _ _ ⟨cap, e, zrep [z] (cap - (vs.length + 1)), by simp, ?_, ?_⟩ ?_ (.inr hnb)
      · simp [hput]
      · have : ∀ m, (zrep [z] m).length = m := by
          intro m
          simp [zrep]
        rw [this]; simp; omega
      · intro j o hj hj2
        exact Kp.put (bn := b) hnb j o hj hj2

end Go.Proofs.Ythglkcpoofenbaa

/-! splay: a node becomes the top of its splay tree. -/
namespace Go.Proofs.Ythglkcpoofenbaa
open Go
set_option linter.unusedVariables false

theorem Kp.to {b c : Nat} {h1 h2 h3 : H} (a : Kp b h1 h2) (k : Kp c h2 h3) (hc : h1 c = none) : Kp b h1 h3 := fun j o hj hh =>
  k j o (by rintro rfl; rw [hc] at hh; cases hh) (a j o hj hh)
theorem Fz.kp {h h' : H} {bf bn e n b : Nat} {st : St} (f : Fz h bf bn e n st) (k : Kp b h h') (h1 : b ≠ bf) (h2 : b ≠ bn) : Fz h' bf bn e n st := by
  obtain ⟨ne, ef, hf⟩ := f.hd
  exact ⟨⟨ne, ef, k _ _ (fun e => h1 e.symm) hf⟩, k _ _ (fun e => h2 e.symm) f.at_⟩
theorem Fz.put {h : H} {bf bn e n b : Nat} {st : St} {o : Obj} (f : Fz h bf bn e n st) (hb : h b = none) : Fz (hput h b o) bf bn e n st := by
  have h1 : b ≠ bf := by rintro rfl; obtain ⟨_, _, hf⟩ := f.hd; rw [hb] at hf; cases hf
  have h2 : b ≠ bn := by rintro rfl; have := f.at_; unfold At at this; rw [hb] at this; cases this
  exact f.kp (Kp.put (bn := b) hb) h1 h2
theorem Fz.ne {h : H} {bf bn e n b : Nat} {st : St} (f : Fz h bf bn e n st) (hb : h b = none) : b ≠ bf ∧ b ≠ bn := by
  constructor
  · rintro rfl; obtain ⟨_, _, hf⟩ := f.hd; rw [hb] at hf; cases hf
  · rintro rfl; have := f.at_; unfold At at this; rw [hb] at this; cases this
theorem Kp.none {bn b : Nat} {h h' : H} (k : Kp bn h h') (hb : h' b = none) (hn : b ≠ bn) : h b = none := by
  cases e : h b with
  | none => rfl
  | some o => rw [k b o hn e] at hb; cases hb
theorem Sl.put {h : H} {b b' : Nat} {p : Value} {vs : List Value} {o : Obj} (s : Sl h b p vs) (hb : h b' = none) : Sl (hput h b' o) b p vs := by
  have : b ≠ b' := by
    rintro rfl
    obtain ⟨c, e, zs, _, h2, _⟩ := s.ex
    rw [hb] at h2; cases h2
  exact s.kp (Kp.put (bn := b') hb) this

section
variable {bf bn n e : Nat} {h : H} {st : St} {L : Nat → List Nat} {par tv pd : Nat → Int}

theorem pt_of (I : Inv n st L par tv pd) {v k : Nat} (hv : v < n) (hk : k < 2) : Pt n (st v k) := by
  by_cases h0 : 0 ≤ st v k
  · right
    have hc : Ch st v (st v k).toNat := by
      have : k = 0 ∨ k = 1 := by omega
      rcases this with rfl | rfl
      · exact .inl (by omega)
      · exact .inr (by omega)
    exact ⟨(st v k).toNat, by omega, (I.ch v _ hv hc).1⟩
  · exact .inl (by omega)
theorem pc_of (I : Inv n st L par tv pd) {v k : Nat} (hv : v < n) (hk : k < 2) : Pc n v (st v k) := by
  rcases pt_of I hv hk with h | ⟨w, h, hw⟩
  · exact .inl h
  · refine .inr ⟨w, h, hw, ?_⟩
    have hc : Ch st v w := by
      have : k = 0 ∨ k = 1 := by omega
      rcases this with rfl | rfl
      · exact .inl h
      · exact .inr h
    exact I.chNe hv hc

theorem splay_T (f : Fz h bf bn e n st) (I : Inv n st L par tv pd) (Fo : Fst n par tv) (hn : n ≤ 1024) {v : Nat} (hv : v < n) :
    T Try.prog F.links_Forest_splay [fo bf, vi v] h fun r h' => r = .ret unit0 ∧
      ∃ st' L' pd', Fz h' bf bn e n st' ∧ Kp bn h h' ∧ SplayR n st st' L L' par tv pd' v := by
  refine E_links_Forest_splay ?_
  unfold B_links_Forest_splay
  intro b1 hb1
  let Up : Nat → Value → Nat → (Nat → Nat) → Nat → H → Prop := fun bp pv u p len hh =>
    u < n ∧ Kp bn h hh ∧ h bp = none ∧ Sl hh bp pv (ints (len + 1) fun i => p i) ∧ p 0 = v ∧ p len = u ∧
      (∀ i, i ≤ len → p i < n) ∧ (∀ i, i < len → st (p i) 2 = p (i + 1) ∧ Ch st (p (i + 1)) (p i)) ∧ len + 1 ≤ (L u).length
  let I3 : (Value × Int × Unit) → H → Nat → Prop := fun s hh k =>
    ∃ (bp u : Nat) (p : Nat → Nat) (len : Nat), s.2.1 = u ∧ Fz hh bf bn e n st ∧ Up bp s.1 u p len hh ∧ k = n - (L u).length
  refine ⟨fun s hh => ∃ k, I3 s hh k, rk I3, rk_wf I3, ?_, ?_⟩
  · refine ⟨_, b1, v, fun _ => v, 0, rfl, f.put hb1, ⟨hv, Kp.put hb1, hb1, ⟨1, _, [], rfl, by simp [hput]; exact ⟨rfl, rfl⟩, rfl⟩, rfl, rfl, fun _ _ => hv, fun i hi => by omega, ?_⟩, rfl⟩
    have := I.self hv
    exact List.length_pos_of_mem this
  · intro path u' hh hI
    obtain ⟨bp, u, p, len, hu', fz, ⟨hu, kp, hbp, sl, p0, pl, pn, pu, plen⟩, hk⟩ := mu_spec hI
    change u' = (u : Int) at hu'
    subst hu'
    refine (top_A fz hu (I.up u hu)).mono ?_
    rintro _ _ ⟨rfl, rfl⟩
    refine ⟨_, rfl, ifP_of (fun ht => ?_) (fun ht => ?_)⟩
    · -- one up
      have ht : topS st u = false := by simpa using ht
      obtain ⟨x, hx, hcx⟩ := topS_false ht
      have hxn := I.upn hu hx
      refine nd fz.hd hu ⟨_, fz.ld hu (by decide), ?_⟩
      rw [hx]
      intro b2 hb2
      have ne2 := fz.ne hb2
      refine (sl.put hb2).app1 (bx := b2) (x := vi x) (by simp [hput]; rfl) rfl (by decide) (by rw [ints_length]; have := I.short Fo hu; omega) ?_
      intro b' p' h' sl' kp' hb'
      have bpne : bp ≠ bf ∧ bp ≠ bn := f.ne hbp
      have fz' : Fz h' bf bn e n st := (fz.put hb2).kp kp' bpne.1 bpne.2
      have kpp : Kp bn h h' := (kp.trans (Kp.put hb2)).to kp' hbp
      have hb'n : h b' = none := by
        rcases hb' with rfl | hb'
        · exact hbp
        · exact Kp.none (kp.trans (Kp.put hb2)) hb' (Fz.ne (fz.put hb2) hb').2
      refine mu_next (I := I3) ⟨b', x, fun i => if i = len + 1 then x else p i, len + 1, rfl, fz', ⟨hxn, kpp, hb'n, ?_, ?_, ?_, ?_, ?_, ?_⟩, rfl⟩ ?_
      · have e1 : ints (len + 1 + 1) (fun i => ((if i = len + 1 then x else p i : Nat) : Int)) = ints (len + 1) (fun i => (p i : Int)) ++ [vi x] := by
          unfold ints
          rw [List.range_succ, List.map_append]
          congr 1
          · apply List.map_congr_left
            intro i hi
            have := List.mem_range.1 hi
            show Value.int .i64 ((if i = len + 1 then x else p i : Nat) : Int) = _
            rw [if_neg (by omega)]
          · simp
        rw [e1]
        exact sl'
      · simp only []
        rw [if_neg (by omega)]; exact p0
      · simp
      · intro i hi
        simp only []
        split
        · exact hxn
        · exact pn i (by omega)
      · intro i hi
        simp only []
        by_cases e1 : i = len
        · subst e1
          rw [if_neg (by omega), if_pos rfl, pl]
          exact ⟨hx, hcx⟩
        · rw [if_neg (by omega), if_neg (by omega)]
          exact pu i (by omega)
      · have := I.len hxn hcx
        omega
      · rw [hk]
        have h1 := I.len hxn hcx
        have h2 := I.short Fo hxn
        omega
    · -- the path is whole
      have ht : Top st u := topS_iff.1 (by simpa using ht)
      obtain ⟨pc, pe, pzs, hp, sl2, sl3⟩ := sl.ex
      rw [ints_length] at sl3 hp
      change path = _ at hp
      subst hp
      have hln : len + 1 ≤ n := Nat.le_trans plen (I.short Fo hu)
      have wl : IntKind.i64.wrap (((len + 1 : Nat) : Int) - 1) = ((len + 1 : Nat) : Int) - 1 := w64_in (by omega) (by omega)
      -- lengths rise along the path
      have rise : ∀ i j, i < j → j ≤ len → (L (p i)).length < (L (p j)).length := by
        intro i j hij hj
        induction j with
        | zero => omega
        | succ j ih =>
          have h1 := I.len (pn (j + 1) hj) (pu j (by omega)).2
          by_cases e1 : i = j
          · subst e1; exact h1
          · have := ih (by omega) (by omega)
            omega
      have bpne : bp ≠ bf ∧ bp ≠ bn := f.ne hbp
      let I22 : (Int × Unit) → H → Nat → Prop := fun s g k =>
        ∃ st1 pd1, s.1 = (k : Int) - 1 ∧ k ≤ len + 1 ∧ (∀ w j, j < 3 → st1 w j = st w j) ∧ Inv n st1 L par tv pd1 ∧ Fz g bf bn e n st1 ∧ Kp bn h g ∧ Kp bn hh g ∧
          (∀ j, k ≤ j → j ≤ len → st1 (p j) 5 = 0 ∧ pd1 (p j) = 0) ∧ (∀ j, j + 1 = k → pd1 (p j) = 0)
      refine ⟨fun s g => ∃ k, I22 s g k, rk I22, rk_wf I22, ?_, ?_⟩
      · refine ⟨len + 1, st, pd, wl, Nat.le_refl _, fun _ _ _ => rfl, I, fz, kp, Kp.refl, fun j h1 h2 => by omega, fun j hj => ?_⟩
        have : j = len := by omega
        subst this
        rw [pl]; exact I.pdt u hu ht
      · intro i' g hI
        obtain ⟨st1, pd1, hi', hk1, lk, I1, fz1, kp1, kp2, z1, z2⟩ := mu_spec hI
        generalize hkk : mu I22 ((i', ()), g) = k at *
        change i' = (k : Int) - 1 at hi'
        refine ifP_of (fun hi0 => ?_) (fun hi0 => ?_)
        · have hi0 := of_decide_eq_true hi0
          obtain ⟨i, rfl⟩ : ∃ i, k = i + 1 := ⟨k - 1, by omega⟩
          have ei : i' = (i : Int) := by omega
          subst ei
          refine nx (n := len + 1) (by omega) ?_
          have slg := sl.kp kp2 bpne.2
          refine ⟨_, slg.get (ints_get (by omega)), ?_⟩
          have hpi := pn i (by omega)
          refine (push_A fz1 hpi (pt_of I1 hpi (by decide)) (pt_of I1 hpi (by decide))).mono ?_
          rintro _ _ ⟨rfl, rfl⟩
          refine ⟨rfl, ?_⟩
          have wi : IntKind.i64.wrap ((i : Int) - 1) = (i : Int) - 1 := w64_in (by omega) (by omega)
          have nch : ∀ j, i ≤ j → j ≤ len → ¬ Ch st1 (p i) (p j) := by
            intro j hij hj hc
            have := I1.len hpi hc
            by_cases e1 : i = j
            · subst e1; omega
            · have := rise i j (by omega) hj
              omega
          refine mu_next (I := I22) (k := i) ⟨pushS st1 (p i), pdPush st1 pd1 (p i), wi, by omega, fun w j hj => ?_, I1.push Fo hpi, fz1.next, kp1.trans Kp.fp, kp2.trans Kp.fp, fun j h1 h2 => ?_, fun j hj => ?_⟩ (by rw [hkk]; omega)
          · rw [pushS_link I1 Fo hpi w hj, lk w j hj]
          · rw [pushS_eq I1 Fo hpi, if_neg (by decide), if_pos rfl]
            unfold pdPush
            rw [if_neg (nch j h1 h2)]
            by_cases e1 : j = i
            · subst e1
              rw [if_pos rfl]
              refine ⟨rfl, ?_⟩
              have := z2 j rfl
              split <;> exact this
            · have : p j ≠ p i := by
                intro e2
                have := rise i j (by omega) h2
                rw [e2] at this; omega
              rw [if_neg this, if_neg (nch j h1 h2)]
              exact z1 j (by omega) h2
          · unfold pdPush
            subst hj
            have : Ch st1 (p (j + 1)) (p j) := (Ch.congr lk).2 (pu j (by omega)).2
            rw [if_pos this]
            exact z2 (j + 1) rfl
        · -- all is handed on
          have hi0 := of_decide_eq_false hi0
          have hk0 : k = 0 := by omega
          subst hk0
          have memp : ∀ i j, i + j = len → ∀ w, w < n → p i ∈ L w → ∃ j, j ≤ len ∧ w = p j := by
            intro i j
            induction j generalizing i with
            | zero =>
              intro hij w hw hm
              have e1 : i = len := by omega
              subst e1
              rw [pl] at hm
              exact ⟨i, Nat.le_refl _, by rw [pl]; exact (I.top_of_mem hw hm ht).symm⟩
            | succ j ih =>
              intro hij w hw hm
              rcases I.anc w hw (p i) hm with h1 | ⟨x, hx, hxn, hcx, hxw⟩
              · exact ⟨i, by omega, h1.symm⟩
              · have := (pu i (by omega)).1
                have e1 : x = p (i + 1) := by omega
                subst e1
                exact ih (i + 1) (by omega) w hw hxw
          have vu : v ∈ L u := by
            have : ∀ j, j ≤ len → v ∈ L (p j) := by
              intro j
              induction j with
              | zero => intro _; rw [p0]; exact I.self hv
              | succ j ih => intro hj; exact I.sub (pn (j + 1) hj) (pu j (by omega)).2 (ih (by omega))
            have := this len (Nat.le_refl _)
            rwa [pl] at this
          let I32 : Unit → H → Nat → Prop := fun _ g k =>
            ∃ st2 L2 pd2 t, Sp n st2 L2 par tv pd2 v t ∧ Fz g bf bn e n st2 ∧ Kp bn h g ∧ L2 t = L u ∧ st2 t 2 = st u 2 ∧
              (∀ w, w < n → Top st w → v ∉ L w → Top st2 w ∧ st2 w 2 = st w 2 ∧ L2 w = L w) ∧ k = n - (L2 v).length
          refine ⟨fun s g => ∃ k, I32 s g k, rk I32, rk_wf I32, ?_, ?_⟩
          · refine ⟨_, st1, L, pd1, u, ⟨I1, hv, hu, (Top.congr lk).2 ht, vu, fun w hw hm => ?_⟩, fz1, kp1, rfl, lk _ _ (by decide), fun w hw hT _ => ⟨(Top.congr lk).2 hT, lk _ _ (by decide), rfl⟩, rfl⟩
            rw [← p0] at hm
            obtain ⟨j, hj, rfl⟩ := memp 0 len (by omega) w hw hm
            exact z1 j (by omega) hj
          · intro g2 hI
            obtain ⟨st2, L2, pd2, t, S, fz2, kp3, hLt, ht2, hfr, hk2⟩ := mu_spec hI
            generalize hkk2 : mu I32 ((), g2) = k2 at *
            refine (top_A fz2 hv (S.inv.up v hv)).mono ?_
            rintro _ _ ⟨rfl, rfl⟩
            refine ⟨_, rfl, ifP_of (fun hT => ?_) (fun hT => ?_)⟩
            · have hT : ¬ Top st2 v := fun h => by rw [topS_iff.2 h] at hT; cases hT
              have vt : v ≠ t := by rintro rfl; exact hT S.top
              obtain ⟨x, hx, hcx⟩ := not_top hT
              have hxn := S.inv.upn hv hx
              have hvx : v ∈ L2 x := S.inv.sub hxn hcx (S.inv.self hv)
              have vx : v ≠ x := S.inv.chNe hxn hcx
              refine nd fz2.hd hv ⟨_, fz2.ld hv (by decide), ?_⟩
              rw [hx]
              refine (top_A fz2 hxn (S.inv.up x hxn)).mono ?_
              rintro _ _ ⟨rfl, rfl⟩
              refine ⟨_, rfl, ?_⟩
              have frs : ∀ {st3 : St} {L3 : Nat → List Nat} {t' x y : Nat}, SpR n st2 st3 L2 L3 par tv pd2 v t t' x y →
                  ∀ w, w < n → Top st w → v ∉ L w → Top st3 w ∧ st3 w 2 = st w 2 ∧ L3 w = L w := by
                intro st3 L3 t' x y R w hw h1 h2
                obtain ⟨a1, a2, a3⟩ := hfr w hw h1 h2
                obtain ⟨b1, b2, b3⟩ := R.fr w hw a1 (by rw [a3]; exact h2)
                exact ⟨b1, b2.trans a2, b3.trans a3⟩
              -- two turns, the second with v
              have second : ∀ {st3 : St} {L3 : Nat → List Nat} {t' x y : Nat} {g3 : H}, SpR n st2 st3 L2 L3 par tv pd2 v t t' x y → v ≠ t' → Fz g3 bf bn e n st3 → Kp bn h g3 →
                  (L2 v).length ≤ (L3 v).length →
                  T Try.prog F.links_Forest_rotate [fo bf, vi v] g3 (rt (fun v59 h60 => v59 = .tuple ⟨[]⟩ ∧ (∃ k, I32 () h60 k) ∧ rk I32 ((), h60) ((), g2))
                    (fun v61 h62 => Res.pan v61 = Res.ret unit0 ∧ ∃ st' L' pd', Fz h62 bf bn e n st' ∧ Kp bn h h62 ∧ SplayR n st st' L L' par tv pd' v)) := by
                intro st3 L3 t' x y g3 R vt' fz3 kp4 hlen
                have hT3 : ¬ Top st3 v := fun h => vt' (R.sp.inv.top_of_mem R.sp.tn R.sp.mem h)
                refine R.sp.rot_A fz3 Fo hv (R.sp.inv.self hv) hT3 ?_
                intro y2 L4 t2 hy2 e4 hc4 ne4 R4
                refine ⟨rfl, mu_next (I := I32) (k := n - (L4 v).length) ⟨_, L4, pd2, t2, R4.sp, fz3.next, kp4.trans Kp.fp, by rw [R4.lt, R.lt, hLt], by rw [R4.e2, R.e2, ht2], ?_, rfl⟩ ?_⟩
                · intro w hw h1 h2
                  obtain ⟨a1, a2, a3⟩ := frs R w hw h1 h2
                  obtain ⟨b1, b2, b3⟩ := R4.fr w hw a1 (by rw [a3]; exact h2)
                  exact ⟨b1, b2.trans a2, b3.trans a3⟩
                · rw [hkk2, hk2, R4.lx]
                  have l1 := R.sp.inv.len hy2 hc4
                  have l2 := R.sp.inv.short Fo hy2
                  omega
              refine ifP_of (fun hT2 => ?_) (fun hT2 => ?_)
              · have hT2 : ¬ Top st2 x := fun h => by rw [topS_iff.2 h] at hT2; cases hT2
                obtain ⟨y, hy, hcy⟩ := not_top hT2
                have hyn := S.inv.upn hxn hy
                refine nd fz2.hd hxn ⟨_, fz2.ld hxn (by decide), ?_⟩
                rw [hy]
                refine ⟨_, fz2.hd.ld, nx hxn ⟨_, fz2.ld hxn (by decide), _, fz2.hd.ld, nx hyn ⟨_, fz2.ld hyn (by decide), ?_⟩⟩⟩
                have vny : v ≠ y := by
                  rintro rfl
                  have := S.inv.len hyn hcy
                  have := S.inv.len hxn hcx
                  omega
                refine ifP_of (fun _ => ?_) (fun _ => ?_)
                · refine S.rot_A fz2 Fo hxn hvx hT2 ?_
                  intro y2 L3 t' hy2 e3 hc3 ne3 R
                  have ey : y2 = y := by omega
                  subst ey
                  refine ⟨rfl, second R ?_ fz2.next (kp3.trans Kp.fp) ?_⟩
                  · rcases R.tt with rfl | rfl
                    · exact vx
                    · exact vt
                  · rw [R.lo v vx vny]
                    exact Nat.le_refl _
                · refine S.rot_A fz2 Fo hv (S.inv.self hv) hT ?_
                  intro y2 L3 t' hy2 e3 hc3 ne3 R
                  have ey : y2 = x := by omega
                  subst ey
                  refine ⟨rfl, second R ?_ fz2.next (kp3.trans Kp.fp) ?_⟩
                  · rw [R.tt2 hT2]; exact vt
                  · rw [R.lx]
                    exact Nat.le_of_lt (S.inv.len hxn hcx)
              · refine S.rot_A fz2 Fo hv (S.inv.self hv) hT ?_
                intro y2 L3 t' hy2 e3 hc3 ne3 R
                have ey : y2 = x := by omega
                subst ey
                refine ⟨rfl, mu_next (I := I32) (k := n - (L3 v).length) ⟨_, L3, pd2, t', R.sp, fz2.next, kp3.trans Kp.fp, by rw [R.lt, hLt], by rw [R.e2, ht2], frs R, rfl⟩ ?_⟩
                rw [hkk2, hk2, R.lx]
                have l1 := S.inv.len hxn hcx
                have l2 := S.inv.short Fo hxn
                omega
            · have hT : Top st2 v := topS_iff.1 (by simpa using hT)
              have e1 : v = t := S.inv.top_of_mem S.tn S.mem hT
              subst e1
              refine ⟨rfl, st2, L2, pd2, fz2, kp3, S.inv, hT, ⟨u, hu, ht, vu, hLt, ht2⟩, (S.cl v hv S.mem).1, (S.cl v hv S.mem).2, hfr⟩

end
end Go.Proofs.Ythglkcpoofenbaa

/-! access and root. -/
namespace Go.Proofs.Ythglkcpoofenbaa
open Go
set_option linter.unusedVariables false

theorem LL_cons_of {L : Nat → List Nat} {c : Int} {x : Nat} (h : c = x) : LL L c = L x := by subst h; exact LL_nat L x

section
variable {n : Nat} {st : St} {L : Nat → List Nat} {par tv pd : Nat → Int}

theorem Inv.pd_cg {pd' : Nat → Int} {v : Nat} {x : Int} (h : w64 (pd' v) = w64 (pd v)) : w64 (x - pd v) = w64 (x - pd' v) := by
  obtain ⟨k, hk⟩ := w64_cg.1 h
  exact w64_of ⟨k, by omega⟩

/-- A child under nothing that is still to be added has its least. -/
theorem Inv.lstZ (I : Inv n st L par tv pd) (F : Fst n par tv) {c : Nat} (hc : c < n) (h : w64 (pd c) = w64 0) : st c 4 = mn tv (L c) := by
  rw [I.lst c hc]
  obtain ⟨k, hk⟩ := w64_cg.1 h
  have r := I.mnRng F c hc
  have : w64 (mn tv (L c) - pd c) = w64 (mn tv (L c)) := w64_of ⟨-k, by omega⟩
  rw [this, w64_in r.1 r.2]

def hang (st : St) (u : Nat) (c : Int) : St := pullS (upd2 st u 1 c) u
theorem hang_eq {st : St} {u : Nat} {c : Int} (w j : Nat) : hang st u c w j = if w = u ∧ j = 4 then least3 (upd2 st u 1 c) u else if w = u ∧ j = 1 then c else st w j := by
  unfold hang pullS
  show upd2 (upd2 st u 1 c) u 4 _ w j = _
  unfold upd2
  rfl

/-- What hangs on the right of a top becomes another way; the old right side is a way of its own. -/
theorem Inv.hang_ (I : Inv n st L par tv pd) (F : Fst n par tv) {u : Nat} {c : Int} (hu : u < n) (ht : Top st u) (a0 : st u 5 = 0) (p0 : pd u = 0)
    (hc : c = -1 ∨ ∃ x : Nat, c = x ∧ x < n ∧ Top st x ∧ st x 2 = u ∧ x ≠ u) :
    Inv n (hang st u c) (fun w => if w = u then LL L (st u 0) ++ u :: LL L c else L w) par tv (fun w => if Ch st u w then 0 else pd w) ∧ Top (hang st u c) u := by
  have e : ∀ w j, j ≠ 4 → hang st u c w j = if w = u ∧ j = 1 then c else st w j := by
    intro w j hj; rw [hang_eq, if_neg (by omega)]
  have cne : c ≠ u := by
    rcases hc with h | ⟨x, h, _, _, _, hx⟩ <;> omega
  have CH : ∀ w y : Nat, w < n → Ch (hang st u c) w y → (w = u ∧ c = y ∧ y < n ∧ st y 2 = u ∧ Top st y ∧ y ≠ u) ∨ Ch st w y := by
    intro w y hw h
    rcases h with h | h
    · rw [e _ _ (by decide), if_neg (by omega)] at h
      exact .inr (.inl h)
    · rw [e _ _ (by decide)] at h
      by_cases hwu : w = u
      · rw [if_pos ⟨hwu, rfl⟩] at h
        rcases hc with hc | ⟨x, hx, hxn, hT, h2, hxu⟩
        · omega
        · have : x = y := by omega
          subst this
          exact .inl ⟨hwu, hx, hxn, h2, hT, hxu⟩
      · rw [if_neg (fun h => hwu h.1)] at h
        exact .inr (.inr h)
  have nchu : ∀ w, w < n → ¬ Ch st w u := fun w hw h => ht w (I.ch w u hw h).2 h
  have pz : ∀ y, Ch st u y → w64 (pd y) = w64 0 := fun y hy => by rw [I.pdc u y hu hy, p0, a0]; rfl
  generalize hpd : (fun w => if Ch st u w then (0 : Int) else pd w) = pd'
  have pdE : ∀ w, w64 (pd' w) = w64 (pd w) := by
    intro w
    rw [← hpd]
    by_cases h : Ch st u w
    · show w64 (if Ch st u w then 0 else pd w) = _
      rw [if_pos h, pz w h]
    · show w64 (if Ch st u w then 0 else pd w) = _
      rw [if_neg h]
  generalize hL : (fun w => if w = u then LL L (st u 0) ++ u :: LL L c else L w) = L'
  have Lu : L' u = LL L (st u 0) ++ u :: LL L c := by rw [← hL]; exact if_pos rfl
  have Lo : ∀ w, w ≠ u → L' w = L w := fun w hw => by rw [← hL]; exact if_neg hw
  have LLo : ∀ x : Int, x ≠ u → LL L' x = LL L x := by
    intro x hx
    unfold LL
    split
    · exact Lo _ (by omega)
    · rfl
  have u0 : st u 0 ≠ u := fun h => I.chNe hu (.inl h) rfl
  have INO : ∀ w, w < n → L' w = LL L' (hang st u c w 0) ++ w :: LL L' (hang st u c w 1) := by
    intro w hw
    rw [e _ _ (by decide), e _ _ (by decide), if_neg (by omega)]
    by_cases hwu : w = u
    · subst hwu
      rw [if_pos ⟨rfl, rfl⟩, Lu, LLo _ u0, LLo _ cne]
    · rw [if_neg (fun h => hwu h.1), Lo w hwu, I.ino w hw, LLo, LLo]
      · exact fun h => nchu w hw (.inr h)
      · exact fun h => nchu w hw (.inl h)
  have topu : Top (hang st u c) u := by
    intro w hw h
    rw [e _ _ (by decide), if_neg (by omega)] at hw
    have hwn := I.upn hu hw
    rcases CH w u hwn h with ⟨_, _, _, _, _, hne⟩ | h
    · exact hne rfl
    · exact nchu w hwn h
  have chu := I.chn u hu
  rw [I.ino u hu] at chu
  have TOP : ∀ w, w < n → w ≠ u → Top (hang st u c) w → (Top st w ∨ st u 1 = w) := by
    intro w hw hwu hT
    by_cases h1 : Top st w
    · exact .inl h1
    · obtain ⟨y, hy, hcy⟩ := not_top h1
      have hyn := I.upn hw hy
      have e2 : hang st u c w 2 = y := by rw [e _ _ (by decide), if_neg (by omega)]; exact hy
      have hn := hT y e2
      rcases hcy with k | k
      · exact absurd (.inl (by rw [e _ _ (by decide), if_neg (by omega)]; exact k)) hn
      · by_cases hyu : y = u
        · subst hyu; exact .inr k
        · exact absurd (.inr (by rw [e _ _ (by decide), if_neg (fun h => hyu h.1)]; exact k)) hn
  refine ⟨⟨?_, ?_, INO, ?_, ?_, ?_, ?_, ?_, ?_⟩, topu⟩
  · intro w y hw h
    rw [e _ _ (by decide), if_neg (by omega)]
    rcases CH w y hw h with ⟨rfl, _, h1, h2, _⟩ | h
    · exact ⟨h1, h2⟩
    · exact I.ch w y hw h
  · intro w hw
    rw [e _ _ (by decide), if_neg (by omega)]
    exact I.up w hw
  · intro w hw
    by_cases hwu : w = u
    · subst hwu
      rw [Lu]
      have h1 : Chn par (LL L (st w 0) ++ [w]) := by
        rw [show LL L (st w 0) ++ w :: LL L (st w 1) = (LL L (st w 0) ++ [w]) ++ LL L (st w 1) by simp] at chu
        exact (Chn.append.1 chu).1
      rw [show LL L (st w 0) ++ w :: LL L c = (LL L (st w 0) ++ [w]) ++ LL L c by simp]
      refine Chn.append.2 ⟨h1, ?_, ?_⟩
      · rcases hc with rfl | ⟨x, rfl, hx, _⟩
        · trivial
        · rw [LL_nat]; exact I.chn x hx
      · intro a b ha hb
        simp at ha
        subst ha
        rcases hc with rfl | ⟨x, rfl, hx, hT, h2, _⟩
        · cases hb
        · rw [LL_nat] at hb
          obtain ⟨b', l, e1, e2⟩ := I.hd x hx hT
          rw [e1] at hb
          cases hb
          rw [e2, h2]
    · rw [Lo w hwu]; exact I.chn w hw
  · intro w hw hT
    rw [e _ _ (by decide), if_neg (by omega)]
    by_cases hwu : w = u
    · subst hwu
      obtain ⟨a, l, e1, e2⟩ := I.hd w hw ht
      rw [I.ino w hw] at e1
      rw [Lu]
      cases h0 : LL L (st w 0) with
      | nil =>
        rw [h0] at e1
        cases e1
        exact ⟨w, _, rfl, e2⟩
      | cons b l0 =>
        rw [h0] at e1
        cases e1
        exact ⟨a, _, rfl, e2⟩
    · rw [Lo w hwu]
      rcases TOP w hw hwu hT with h | h
      · exact I.hd w hw h
      · have hcw : Ch st u w := .inr h
        have w2 := (I.ch u w hu hcw).2
        rw [show LL L (st u 0) ++ u :: LL L (st u 1) = (LL L (st u 0) ++ [u]) ++ LL L (st u 1) by simp] at chu
        have := (Chn.append.1 chu).2.2
        rw [h, LL_nat] at this
        cases hl : L w with
        | nil => have := I.self hw; rw [hl] at this; cases this
        | cons b l =>
          refine ⟨b, l, rfl, ?_⟩
          rw [w2]
          exact this u b (by simp) (by rw [hl]; rfl)
  · intro w hw hT
    rw [← hpd]
    show (if Ch st u w then (0 : Int) else pd w) = 0
    by_cases h : Ch st u w
    · rw [if_pos h]
    · rw [if_neg h]
      by_cases hwu : w = u
      · subst hwu; exact p0
      · rcases TOP w hw hwu hT with h1 | h1
        · exact I.pdt w hw h1
        · exact absurd (.inr h1) h
  · intro w y hw h
    rw [e _ _ (by decide), if_neg (by omega), pdE]
    have pw : w64 (pd' w + st w 5) = w64 (pd w + st w 5) := by
      obtain ⟨k, hk⟩ := w64_cg.1 (pdE w)
      exact w64_of ⟨k, by omega⟩
    rw [pw]
    rcases CH w y hw h with ⟨rfl, _, h1, h2, h3, _⟩ | h
    · rw [p0, a0, I.pdt y h1 h3]; rfl
    · exact I.pdc w y hw h
  · intro w hw
    rw [e _ _ (by decide), if_neg (by omega), I.val w hw]
    exact Inv.pd_cg (pdE w)
  · intro w hw
    rw [hang_eq]
    by_cases hwu : w = u
    · subst hwu
      rw [if_pos ⟨rfl, rfl⟩]
      have rng : ∀ a ∈ L' w, a < n := by
        intro a ha
        rw [Lu] at ha
        simp only [List.mem_append, List.mem_cons] at ha
        have key : ∀ z : Int, z < 0 ∨ (∃ y : Nat, z = y ∧ y < n) → a ∈ LL L z → a < n := by
          rintro z (h | ⟨y, rfl, hy⟩) hz
          · rw [LL_neg h] at hz; cases hz
          · rw [LL_nat] at hz; exact I.lt y hy a hz
        rcases ha with h | h | h
        · exact key _ (pt_of I hw (by decide)) h
        · omega
        · refine key _ ?_ h
          rcases hc with h | ⟨x, h, hx, _⟩
          · exact .inl (by omega)
          · exact .inr ⟨x, h, hx⟩
      have e3 : least3 (upd2 st w 1 c) w = mn tv (L' w) := by
        have q : ∀ x j, upd2 st w 1 c x j = if x = w ∧ j = 1 then c else st x j := fun _ _ => rfl
        refine least3_ok ?_ ?_ ?_ (fun a ha => (F.rng a (rng a ha)).2)
        · rw [q, if_neg (by omega), I.val w hw, p0, Int.sub_zero, w64_in (F.rng w hw).1 (F.rng w hw).2]
        · intro y hy
          rw [q, if_neg (by omega)]
          have hy' : y < n ∧ w64 (pd y) = w64 0 ∧ y ≠ w := by
            rcases hy with h | h
            · rw [q, if_neg (by omega)] at h
              exact ⟨(I.ch w y hw (.inl h)).1, pz y (.inl h), I.chNe hw (.inl h)⟩
            · rw [q, if_pos ⟨rfl, rfl⟩] at h
              rcases hc with hc | ⟨x, hx, hxn, hT, h2, hxu⟩
              · omega
              · have : x = y := by omega
                subst this
                exact ⟨hxn, by rw [I.pdt x hxn hT], hxu⟩
          rw [I.lstZ F hy'.1 hy'.2.1, Lo y hy'.2.2]
        · rw [q, q, if_neg (by omega), if_pos ⟨rfl, rfl⟩, Lu, LLo _ u0, LLo _ cne]
      rw [e3]
      have pw : pd' w = 0 := by
        rw [← hpd]
        show (if Ch st w w then (0 : Int) else pd w) = 0
        rw [if_neg (fun h => I.chNe hw h rfl)]; exact p0
      rw [pw, Int.sub_zero, w64_in (mn_low _ fun a ha => (F.rng a (rng a ha)).1) (mn_high (a := w) (by rw [Lu]; simp) (F.rng w hw).2)]
    · rw [if_neg (fun h => hwu h.1), if_neg (by omega), Lo w hwu, I.lst w hw]
      exact Inv.pd_cg (pdE w)

/-- The depth of a way's first node is the least. -/
theorem Inv.head_d (I : Inv n st L par tv pd) {d : Nat → Nat} (hd : ∀ v u : Nat, v < n → par v = u → d u < d v) {v a : Nat} {l : List Nat} (hv : v < n) (hl : L v = a :: l) :
    ∀ x ∈ L v, d a ≤ d x := by
  have := Chn.pair hd (I.chn v hv) (I.lt v hv)
  rw [hl] at this ⊢
  intro x hx
  rcases List.mem_cons.1 hx with rfl | hx
  · exact Nat.le_refl _
  · exact Nat.le_of_lt ((List.pairwise_cons.1 this).1 x hx)

end
end Go.Proofs.Ythglkcpoofenbaa

/-! access and root: the walks. -/
namespace Go.Proofs.Ythglkcpoofenbaa
open Go
set_option linter.unusedVariables false

section
variable {bf bn n e : Nat} {h : H} {st : St} {L : Nat → List Nat} {par tv pd : Nat → Int}

/-- The way to v is one splay tree, v on top, nothing below it. -/
structure AccR (n : Nat) (st : St) (L : Nat → List Nat) (par tv pd : Nat → Int) (v : Nat) : Prop where
  inv : Inv n st L par tv pd
  top : Top st v
  up : st v 2 = -1
  rt : st v 1 < 0
  last : (L v).getLast? = some v
  a0 : st v 5 = 0
  p0 : pd v = 0

theorem LL_nil_of (I : Inv n st L par tv pd) {v k : Nat} (hv : v < n) (hk : k < 2) (h : LL L (st v k) = []) : st v k < 0 := by
  rcases pt_of I hv hk with h1 | ⟨w, h1, hw⟩
  · exact h1
  · rw [h1, LL_nat] at h
    have := I.self hw
    rw [h] at this; cases this

theorem head_neg (I : Inv n st L par tv pd) (Fo : Fst n par tv) {v : Nat} (hv : v < n) (hT : Top st v) (h : st v 2 < 0) : st v 2 = -1 := by
  obtain ⟨a, l, e1, e2⟩ := I.hd v hv hT
  have ha : a < n := I.lt v hv a (by rw [e1]; simp)
  rcases Fo.pt a ha with h1 | ⟨u, h1, _⟩ <;> omega

theorem last_rt (I : Inv n st L par tv pd) (Fo : Fst n par tv) {v : Nat} (hv : v < n) (h : (L v).getLast? = some v) : st v 1 < 0 := by
  refine LL_nil_of I hv (by decide) ?_
  have nd := I.nodup Fo hv
  rw [I.ino v hv] at h nd
  cases hl : LL L (st v 1) with
  | nil => rfl
  | cons b l =>
    rw [hl] at h nd
    have hm : v ∈ b :: l := by
      rw [List.getLast?_append] at h
      have : (v :: b :: l).getLast? = (b :: l).getLast? := by simp [List.getLast?_cons_cons]
      rw [this] at h
      cases hg : (b :: l).getLast? with
      | none => simp at hg
      | some z =>
        rw [hg] at h
        simp at h
        subst h
        exact List.mem_of_getLast? hg
    have := (List.nodup_append.1 nd).2.1
    exact absurd hm (List.nodup_cons.1 this).1

theorem first_lf (I : Inv n st L par tv pd) (Fo : Fst n par tv) {v : Nat} (hv : v < n) (h : (L v).head? = some v) : st v 0 < 0 := by
  refine LL_nil_of I hv (by decide) ?_
  have nd := I.nodup Fo hv
  rw [I.ino v hv] at h nd
  cases hl : LL L (st v 0) with
  | nil => rfl
  | cons b l =>
    rw [hl] at h nd
    simp at h
    subst h
    simp at nd

theorem access_T (f : Fz h bf bn e n st) (I : Inv n st L par tv pd) (Fo : Fst n par tv) (hn : n ≤ 1024) {v : Nat} (hv : v < n) :
    T Try.prog F.links_Forest_access [fo bf, vi v] h fun r h' => r = .ret unit0 ∧
      ∃ st' L' pd', Fz h' bf bn e n st' ∧ Kp bn h h' ∧ AccR n st' L' par tv pd' v := by
  refine E_links_Forest_access ?_
  unfold B_links_Forest_access
  obtain ⟨d, hd⟩ := Fo.acy
  let I1 : (Int × Int × Unit) → H → Nat → Prop := fun s g k =>
    ∃ st1 L1 pd1, Fz g bf bn e n st1 ∧ Kp bn h g ∧ Inv n st1 L1 par tv pd1 ∧
      ((s.1 = -1 ∧ s.2.1 = v ∧ k = d v + 1) ∨ ∃ x : Nat, s.1 = x ∧ x < n ∧ Top st1 x ∧ st1 x 2 = s.2.1 ∧ (L1 x).getLast? = some v ∧
        ((s.2.1 < 0 ∧ k = 0) ∨ ∃ u : Nat, s.2.1 = u ∧ u < n ∧ k = d u + 1))
  refine ⟨fun s g => ∃ k, I1 s g k, rk I1, rk_wf I1, ?_, ?_⟩
  · exact ⟨_, st, L, pd, f, Kp.refl, I, .inl ⟨rfl, rfl, rfl⟩⟩
  · intro last u' g hI
    obtain ⟨st1, L1, pd1, fz, kp, J, hc⟩ := mu_spec hI
    generalize hkk : mu I1 ((last, u', ()), g) = k at *
    refine ifP_of (fun h0 => ?_) (fun h0 => ?_)
    · have h0 := of_decide_eq_true h0
      obtain ⟨u, hu', hu, hk⟩ : ∃ u : Nat, u' = u ∧ u < n ∧ k = d u + 1 := by
        rcases hc with ⟨_, h1, h2⟩ | ⟨x, _, _, _, _, _, h1 | h1⟩
        · exact ⟨v, h1, hv, h2⟩
        · have := h1.1; simp only [] at this; omega
        · exact h1
      subst hu'
      refine (splay_T fz J Fo hn hu).mono ?_
      rintro _ g1 ⟨rfl, st2, L2, pd2, fz2, kp2, R⟩
      refine ⟨rfl, nd fz2.hd hu ⟨fz2.wr hu (by decide), ?_⟩⟩
      rw [fz2.set hu (by decide)]
      -- what hangs on the right now
      have hcase : last = -1 ∧ u = v ∨ ∃ x : Nat, last = x ∧ x < n ∧ Top st2 x ∧ st2 x 2 = u ∧ x ≠ u ∧ (L2 x).getLast? = some v := by
        rcases hc with ⟨h1, h2, _⟩ | ⟨x, h1, hx, hT, h2, h3, _⟩
        · simp only [] at h1 h2
          exact .inl ⟨h1, by omega⟩
        · simp only [] at h1 h2
          right
          obtain ⟨a, l, e1, e2⟩ := J.hd x hx hT
          have ha : a < n := J.lt x hx a (by rw [e1]; simp)
          have hda := hd a u ha (by rw [e2, h2])
          have hux : u ∉ L1 x := fun hm => by
            have := J.head_d hd hx e1 u hm
            omega
          obtain ⟨b1, b2, b3⟩ := R.fr x hx hT hux
          refine ⟨x, h1, hx, b1, by rw [b2, h2], ?_, by rw [b3]; exact h3⟩
          rintro rfl
          exact hux (J.self hx)
      have hcc : last = -1 ∨ ∃ x : Nat, last = x ∧ x < n ∧ Top st2 x ∧ st2 x 2 = u ∧ x ≠ u := by
        rcases hcase with h | ⟨x, a1, a2, a3, a4, a5, _⟩
        · exact .inl h.1
        · exact .inr ⟨x, a1, a2, a3, a4, a5⟩
      have pcl : Pc n u last := by
        rcases hcc with h | ⟨x, a1, a2, a3, a4, a5⟩
        · exact .inl (by omega)
        · exact .inr ⟨x, a1, a2, a5⟩
      refine (pull_A fz2.next hu ?_ ?_).mono ?_
      · have : upd2 st2 u 1 last u 0 = st2 u 0 := by unfold upd2; rw [if_neg (by omega)]
        rw [this]; exact pc_of R.inv hu (by decide)
      · have : upd2 st2 u 1 last u 1 = last := by unfold upd2; rw [if_pos ⟨rfl, rfl⟩]
        rw [this]; exact pcl
      rintro _ _ ⟨rfl, rfl⟩
      rw [fp_fp]
      show _ ∧ _
      refine ⟨rfl, ?_⟩
      have hg : pullS (upd2 st2 u 1 last) u = hang st2 u last := rfl
      rw [hg]
      obtain ⟨J3, T3⟩ := R.inv.hang_ Fo hu R.top R.a0 R.p0 hcc
      generalize hL3 : (fun w => if w = u then LL L2 (st2 u 0) ++ u :: LL L2 last else L2 w) = L3 at J3
      generalize (fun w => if Ch st2 u w then (0 : Int) else pd2 w) = pd3 at J3
      have fz3 : Fz (fp g1 bn e n 6 (hang st2 u last)) bf bn e n (hang st2 u last) := fz2.next
      refine nd fz3.hd hu ⟨_, fz3.ld hu (by decide), ?_⟩
      have e2 : hang st2 u last u 2 = st2 u 2 := by rw [hang_eq, if_neg (by omega), if_neg (by omega)]
      have hlast : (L3 u).getLast? = some v := by
        rw [← hL3]
        show (if u = u then LL L2 (st2 u 0) ++ u :: LL L2 last else L2 u).getLast? = some v
        rw [if_pos rfl]
        rcases hcase with ⟨rfl, rfl⟩ | ⟨x, rfl, _, _, _, _, h6⟩
        · simp [LL_neg]
        · rw [LL_nat, List.getLast?_append, List.getLast?_cons, h6]; rfl
      have upn := J3.up u hu
      refine mu_next (I := I1) (k := if 0 ≤ hang st2 u last u 2 then d (hang st2 u last u 2).toNat + 1 else 0)
        ⟨_, L3, pd3, fz3, (kp.trans kp2).trans Kp.fp, J3, .inr ⟨u, rfl, hu, T3, rfl, hlast, ?_⟩⟩ ?_
      · rcases upn with h1 | ⟨y, h1, hy⟩
        · exact .inl ⟨h1, if_neg (by omega)⟩
        · right
          refine ⟨y, h1, hy, ?_⟩
          show (if 0 ≤ hang st2 u last u 2 then d (hang st2 u last u 2).toNat + 1 else 0) = _
          rw [h1, if_pos (by omega), Int.toNat_natCast]
      · rw [hkk, hk]
        rcases upn with h1 | ⟨y, h1, hy⟩
        · rw [if_neg (by omega)]; omega
        · rw [h1, if_pos (by omega), Int.toNat_natCast]
          obtain ⟨a, l, e3, e4⟩ := J3.hd u hu T3
          have ha : a < n := J3.lt u hu a (by rw [e3]; simp)
          have h2 := hd a y ha (by rw [e4]; exact h1)
          have h3 := J3.head_d hd hu e3 u (J3.self hu)
          omega
    · have h0 := of_decide_eq_false h0
      obtain ⟨x, hx, hT, h2, h3⟩ : ∃ x : Nat, x < n ∧ Top st1 x ∧ st1 x 2 < 0 ∧ (L1 x).getLast? = some v := by
        rcases hc with ⟨_, h1, _⟩ | ⟨x, _, hx, hT, h2, h3, _⟩
        · simp only [] at h1; omega
        · simp only [] at h2
          exact ⟨x, hx, hT, by omega, h3⟩
      refine (splay_T fz J Fo hn hv).mono ?_
      rintro _ g1 ⟨rfl, st2, L2, pd2, fz2, kp2, R⟩
      refine ⟨rfl, rfl, st2, L2, pd2, fz2, kp.trans kp2, ?_⟩
      obtain ⟨t, ht, hTt, hvt, hL, hup⟩ := R.way
      have hvx : v ∈ L1 x := List.mem_of_getLast? h3
      have etx : t = x := by
        rcases J.cmp hx t ht v hvt hvx with h | h
        · exact J.top_of_mem hx h hTt
        · exact (J.top_of_mem ht h hT).symm
      subst etx
      have hl : (L2 v).getLast? = some v := by rw [hL]; exact h3
      have hn2 : st2 v 2 < 0 := by rw [hup]; exact h2
      exact ⟨R.inv, R.top, head_neg R.inv Fo hv R.top hn2, last_rt R.inv Fo hv hl, hl, R.a0, R.p0⟩

/-- The root r of v's tree on top of the way to v. -/
structure RootR (n : Nat) (st : St) (L : Nat → List Nat) (par tv pd : Nat → Int) (r v : Nat) : Prop where
  inv : Inv n st L par tv pd
  rn : r < n
  top : Top st r
  up : st r 2 = -1
  lf : st r 0 < 0
  head : (L r).head? = some r
  last : (L r).getLast? = some v
  a0 : st r 5 = 0
  p0 : pd r = 0
  root : par r = -1

theorem root_T (f : Fz h bf bn e n st) (I : Inv n st L par tv pd) (Fo : Fst n par tv) (hn : n ≤ 1024) {v : Nat} (hv : v < n) :
    T Try.prog F.links_Forest_root [fo bf, vi v] h fun r h' => ∃ x : Nat, r = .ret (vi x) ∧
      ∃ st' L' pd', Fz h' bf bn e n st' ∧ Kp bn h h' ∧ RootR n st' L' par tv pd' x v := by
  refine E_links_Forest_root ?_
  unfold B_links_Forest_root
  refine (access_T f I Fo hn hv).mono ?_
  rintro _ g ⟨rfl, st1, L1, pd1, fz1, kp1, A⟩
  refine ⟨rfl, ?_⟩
  let I3 : (Int × Unit) → H → Nat → Prop := fun s g2 k =>
    ∃ st2 pd2, ∃ w : Nat, s.1 = w ∧ w < n ∧ Fz g2 bf bn e n st2 ∧ Kp bn h g2 ∧ Inv n st2 L1 par tv pd2 ∧ (∀ x j, j < 3 → st2 x j = st1 x j) ∧
      w ∈ L1 v ∧ (L1 w).head? = (L1 v).head? ∧ k = (L1 w).length
  refine ⟨fun s g2 => ∃ k, I3 s g2 k, rk I3, rk_wf I3, ?_, ?_⟩
  · exact ⟨_, st1, pd1, v, rfl, hv, fz1, kp1, A.inv, fun _ _ _ => rfl, A.inv.self hv, rfl, rfl⟩
  · intro w' g2 hI
    obtain ⟨st2, pd2, w, hw', hw, fz2, kp2, J, lk, hwv, hh, hk⟩ := mu_spec hI
    generalize hkk : mu I3 ((w', ()), g2) = k at *
    change w' = (w : Int) at hw'
    subst hw'
    refine (push_A fz2 hw (pt_of J hw (by decide)) (pt_of J hw (by decide))).mono ?_
    rintro _ _ ⟨rfl, rfl⟩
    refine ⟨rfl, ?_⟩
    have J3 := J.push Fo hw
    have fz3 : Fz (fp g2 bn e n 6 (pushS st2 w)) bf bn e n (pushS st2 w) := fz2.next
    have lk3 : ∀ x j, j < 3 → pushS st2 w x j = st1 x j := fun x j hj => by rw [pushS_link J Fo hw x hj, lk x j hj]
    refine nd fz3.hd hw ⟨_, fz3.ld hw (by decide), ?_⟩
    refine ifP_of (fun h0 => ?_) (fun h0 => ?_)
    · have h0 := of_decide_eq_true h0
      refine (splay_T fz3 J3 Fo hn hw).mono ?_
      rintro _ g4 ⟨rfl, st4, L4, pd4, fz4, kp4, R⟩
      refine ⟨rfl, w, rfl, st4, L4, pd4, fz4, (kp2.trans Kp.fp).trans kp4, ?_⟩
      obtain ⟨t, ht, hTt, hwt, hL, hup⟩ := R.way
      have hTv : Top (pushS st2 w) v := (Top.congr lk3).2 A.top
      have etv : t = v := by
        rcases J3.cmp hv t ht w hwt hwv with h | h
        · exact J3.top_of_mem hv h hTt
        · exact (J3.top_of_mem ht h hTv).symm
      subst etv
      have hhead : (L4 w).head? = some w := by
        rw [hL, ← hh, J3.ino w hw, LL_neg h0]; rfl
      have up4 : st4 w 2 = -1 := by rw [hup, lk3 _ _ (by decide)]; exact A.up
      refine ⟨R.inv, hw, R.top, up4, first_lf R.inv Fo hw hhead, hhead, by rw [hL]; exact A.last, R.a0, R.p0, ?_⟩
      obtain ⟨a, l, e1, e2⟩ := R.inv.hd w hw R.top
      rw [e1] at hhead
      simp at hhead
      subst hhead
      rw [e2, up4]
    · have h0 := of_decide_eq_false h0
      refine nd fz3.hd hw ⟨_, fz3.ld hw (by decide), ?_⟩
      obtain ⟨c, hc⟩ : ∃ c : Nat, pushS st2 w w 0 = c := ⟨(pushS st2 w w 0).toNat, by omega⟩
      have hcc : Ch (pushS st2 w) w c := .inl hc
      have hcn := (J3.ch w c hw hcc).1
      refine mu_next (I := I3) (k := (L1 c).length) ⟨_, _, c, hc, hcn, fz3, kp2.trans Kp.fp, J3, lk3, J3.mtrans v hv w hwv c (J3.sub hw hcc (J3.self hcn)), ?_, rfl⟩ ?_
      · rw [← hh]
        conv => rhs; rw [J3.ino w hw, hc, LL_nat]
        cases hl : L1 c with
        | nil => have := J3.self hcn; rw [hl] at this; cases this
        | cons a l => rfl
      · rw [hkk, hk]
        exact J3.len hw hcc

end
end Go.Proofs.Ythglkcpoofenbaa

/-! Linking, cutting and adding: the plain laws. -/
namespace Go.Proofs.Ythglkcpoofenbaa
open Go
set_option linter.unusedVariables false

/-- The nodes from a node up to its root. -/
inductive UpW (par : Nat → Int) : Nat → List Nat → Prop
  | root {v : Nat} : par v = -1 → UpW par v [v]
  | step {v u : Nat} {l : List Nat} : par v = u → UpW par u l → UpW par v (v :: l)

theorem UpW.uniq {par : Nat → Int} {v : Nat} {l l' : List Nat} (a : UpW par v l) (b : UpW par v l') : l = l' := by
  induction a generalizing l' with
  | root h =>
    cases b with
    | root _ => rfl
    | step k _ => omega
  | step h _ ih =>
    cases b with
    | root k => omega
    | step k b2 =>
      have e := h.symm.trans k
      have e := Int.ofNat_inj.1 e
      subst e
      rw [ih b2]
theorem UpW.last {par : Nat → Int} {v : Nat} {l : List Nat} (a : UpW par v l) : ∃ r, l.getLast? = some r ∧ par r = -1 := by
  induction a with
  | root h => exact ⟨_, rfl, h⟩
  | @step v u l h a ih =>
    obtain ⟨r, h1, h2⟩ := ih
    refine ⟨r, ?_, h2⟩
    rw [List.getLast?_cons, h1]; rfl
theorem UpW.head {par : Nat → Int} {v : Nat} {l : List Nat} (a : UpW par v l) : ∃ m, l = v :: m := by
  cases a <;> exact ⟨_, rfl⟩
theorem UpW.of_chn {par : Nat → Int} : ∀ {l : List Nat} {a : Nat} {m : List Nat}, Chn par (a :: l) → UpW par a m → ∀ v, (a :: l).getLast? = some v → UpW par v (l.reverse ++ m) := by
  intro l
  induction l with
  | nil => intro a m _ h v hv; cases hv; exact h
  | cons b l ih =>
    intro a m hc h v hv
    have := ih (m := b :: m) hc.2 (.step hc.1 h) v (by rw [List.getLast?_cons_cons] at hv; exact hv)
    simpa using this
theorem UpW.of_way {par : Nat → Int} {l : List Nat} {r v : Nat} (hc : Chn par l) (hh : l.head? = some r) (hl : l.getLast? = some v) (hr : par r = -1) : UpW par v l.reverse := by
  cases l with
  | nil => cases hh
  | cons a l =>
    cases hh
    simpa using UpW.of_chn hc (.root hr) v hl
theorem UpW.exists {n : Nat} {par tv : Nat → Int} (F : Fst n par tv) : ∀ v, v < n → ∃ l, UpW par v l ∧ ∀ x ∈ l, x < n := by
  obtain ⟨d, hd⟩ := F.acy
  have : ∀ k v, v < n → d v ≤ k → ∃ l, UpW par v l ∧ ∀ x ∈ l, x < n := by
    intro k
    induction k with
    | zero =>
      intro v hv hk
      rcases F.pt v hv with h | ⟨u, h, hu⟩
      · exact ⟨_, .root h, by simpa using hv⟩
      · have := hd v u hv h; omega
    | succ k ih =>
      intro v hv hk
      rcases F.pt v hv with h | ⟨u, h, hu⟩
      · exact ⟨_, .root h, by simpa using hv⟩
      · have := hd v u hv h
        obtain ⟨l, h1, h2⟩ := ih u hu (by omega)
        refine ⟨_, .step h h1, ?_⟩
        intro x hx
        rcases List.mem_cons.1 hx with rfl | hx
        · exact hv
        · exact h2 x hx
  exact fun v hv => this _ v hv (Nat.le_refl _)

/-- r is the root of v's tree. -/
def Rt (par : Nat → Int) (v r : Nat) : Prop := ∃ l, UpW par v l ∧ l.getLast? = some r
theorem Rt.uniq {par : Nat → Int} {v r r' : Nat} (a : Rt par v r) (b : Rt par v r') : r = r' := by
  obtain ⟨l, h1, h2⟩ := a
  obtain ⟨l', h3, h4⟩ := b
  rw [h1.uniq h3, h4] at h2
  cases h2; rfl
theorem Rt.root {par : Nat → Int} {v r : Nat} (a : Rt par v r) : par r = -1 := by
  obtain ⟨l, h1, h2⟩ := a
  obtain ⟨r', h3, h4⟩ := h1.last
  rw [h2] at h3; cases h3; exact h4
theorem Rt.self {par : Nat → Int} {v : Nat} (h : par v = -1) : Rt par v v := ⟨_, .root h, rfl⟩
theorem Rt.self_iff {par : Nat → Int} {v r : Nat} (a : Rt par v r) : r = v ↔ par v = -1 :=
  ⟨fun h => by subst h; exact a.root, fun h => a.uniq (Rt.self h)⟩
theorem Rt.up {par : Nat → Int} {v u r : Nat} (h : par v = u) : Rt par u r → Rt par v r := by
  rintro ⟨l, h1, h2⟩
  exact ⟨_, .step h h1, by rw [List.getLast?_cons, h2]; rfl⟩

section
variable {n : Nat} {st : St} {L : Nat → List Nat} {par tv pd : Nat → Int}

theorem Chn.congr {par par' : Nat → Int} : ∀ {l : List Nat}, (∀ x ∈ l, par' x = par x) → Chn par l → Chn par' l := by
  intro l
  induction l with
  | nil => intro _ _; trivial
  | cons a l ih =>
    intro h hc
    have ih := ih (fun x hx => h x (List.mem_cons_of_mem _ hx)) hc.tail
    cases l with
    | nil => trivial
    | cons b l => exact ⟨by rw [h b (by simp)]; exact hc.1, ih⟩
theorem mn_congr {tv tv' : Nat → Int} : ∀ {l : List Nat}, (∀ x ∈ l, tv' x = tv x) → mn tv' l = mn tv l := by
  intro l
  induction l with
  | nil => intro _; rfl
  | cons a l ih =>
    intro h
    simp only [mn]
    rw [h a (by simp), ih (fun x hx => h x (List.mem_cons_of_mem _ hx))]

end

section
variable {n : Nat} {st : St} {L : Nat → List Nat} {par tv pd : Nat → Int}

theorem AccR.upw {v : Nat} (A : AccR n st L par tv pd v) (hv : v < n) : UpW par v (L v).reverse := by
  obtain ⟨a, l, e1, e2⟩ := A.inv.hd v hv A.top
  exact UpW.of_way (A.inv.chn v hv) (by rw [e1]; rfl) A.last (by rw [e2, A.up])
theorem AccR.alone {v : Nat} (A : AccR n st L par tv pd v) (hv : v < n) (hp : par v = -1) : L v = [v] := by
  have := (A.upw hv).uniq (.root hp)
  have h2 := congrArg List.reverse this
  simpa using h2
theorem RootR.upw {v r : Nat} (A : RootR n st L par tv pd r v) : UpW par v (L r).reverse :=
  UpW.of_way (A.inv.chn r A.rn) A.head A.last A.root
theorem RootR.rt {v r : Nat} (A : RootR n st L par tv pd r v) : Rt par v r :=
  ⟨_, A.upw, by rw [List.getLast?_reverse]; exact A.head⟩

theorem Inv.nmem (I : Inv n st L par tv pd) {v u x : Nat} (ht : Top st v) (hu : u < n) (hne : u ≠ v) (hx : x ∈ L u) : x ≠ v := by
  rintro rfl
  exact hne (I.top_of_mem hu hx ht).symm

/-- v hangs itself under w. -/
theorem AccR.link {v w : Nat} {x : Int} (A : AccR n st L par tv pd v) (F : Fst n par tv) (hv : v < n) (hw : w < n) (hp : par v = -1)
    (hx : -9223372036854775808 ≤ x ∧ x < 9223372036854775808) :
    Inv n (upd2 (pullS (upd2 st v 3 x) v) v 2 w) L (upd par v w) (upd tv v x) pd := by
  have I := A.inv
  have lv := A.alone hv hp
  have l0 : st v 0 < 0 := first_lf I F hv (by rw [lv]; rfl)
  have l1 : st v 1 < 0 := A.rt
  have l3 : least3 (upd2 st v 3 x) v = x := by
    rw [least3_eq]
    have e0 : upd2 st v 3 x v 0 = st v 0 := if_neg (by omega)
    have e1 : upd2 st v 3 x v 1 = st v 1 := if_neg (by omega)
    have e3 : upd2 st v 3 x v 3 = x := if_pos ⟨rfl, rfl⟩
    rw [e0, e1, e3]
    unfold lstep
    rw [if_neg (by omega), if_neg (by omega)]
  generalize hst : upd2 (pullS (upd2 st v 3 x) v) v 2 w = st'
  have E : ∀ u j, st' u j = if u = v then (if j = 2 then (w : Int) else if j = 4 then x else if j = 3 then x else st v j) else st u j := by
    intro u j
    rw [← hst]
    unfold pullS
    rw [l3]
    unfold upd2
    by_cases hu : u = v
    · subst hu; simp
    · simp [hu]
  have ch : ∀ u y, Ch st' u y ↔ Ch st u y := by
    intro u y
    unfold Ch
    rw [E u 0, E u 1]
    by_cases hu : u = v
    · subst hu; simp
    · simp [hu]
  have nch : ∀ u, u < n → ¬ Ch st u v := fun u hu h => A.top u (I.ch u v hu h).2 h
  have tv' : ∀ u, u ≠ v → upd tv v x u = tv u := fun u hu => if_neg hu
  have par' : ∀ u, u ≠ v → upd par v w u = par u := fun u hu => if_neg hu
  have tvv : upd tv v x v = x := if_pos rfl
  have parv : upd par v w v = w := if_pos rfl
  refine ⟨?_, ?_, ?_, ?_, ?_, ?_, ?_, ?_, ?_⟩
  · intro u y hu h
    have h := (ch u y).1 h
    have hy : y ≠ v := by rintro rfl; exact nch u hu h
    rw [E, if_neg hy]
    exact I.ch u y hu h
  · intro u hu
    rw [E]
    by_cases h : u = v
    · subst h
      rw [if_pos rfl, if_pos rfl]
      exact .inr ⟨w, rfl, hw⟩
    · rw [if_neg h]; exact I.up u hu
  · intro u hu
    rw [E, E]
    by_cases h : u = v
    · subst h
      simp only [if_true]
      exact I.ino u hu
    · rw [if_neg h, if_neg h]; exact I.ino u hu
  · intro u hu
    by_cases h : u = v
    · subst h; rw [lv]; trivial
    · exact (I.chn u hu).congr fun y hy => par' y (I.nmem A.top hu h hy)
  · intro u hu hT
    by_cases h : u = v
    · subst h
      refine ⟨u, [], lv, ?_⟩
      rw [parv, E, if_pos rfl, if_pos rfl]
    · have hT' : Top st u := by
        intro y hy hc
        exact hT y (by rw [E, if_neg h]; exact hy) ((ch y u).2 hc)
      obtain ⟨a, l, e1, e2⟩ := I.hd u hu hT'
      refine ⟨a, l, e1, ?_⟩
      rw [par' a (I.nmem A.top hu h (by rw [e1]; simp)), E, if_neg h, e2]
  · intro u hu hT
    by_cases h : u = v
    · subst h; exact A.p0
    · refine I.pdt u hu ?_
      intro y hy hc
      exact hT y (by rw [E, if_neg h]; exact hy) ((ch y u).2 hc)
  · intro u y hu h
    have h := (ch u y).1 h
    rw [I.pdc u y hu h, E]
    by_cases h2 : u = v
    · subst h2; simp
    · rw [if_neg h2]
  · intro u hu
    rw [E]
    by_cases h : u = v
    · subst h
      rw [tvv, A.p0, Int.sub_zero, w64_in hx.1 hx.2]
      simp
    · rw [if_neg h, tv' u h]; exact I.val u hu
  · intro u hu
    rw [E]
    by_cases h : u = v
    · subst h
      rw [lv, A.p0, Int.sub_zero]
      simp only [mn, tvv]
      rw [w64_in (by omega) (by omega)]
      simp; omega
    · rw [if_neg h, mn_congr fun y hy => tv' y (I.nmem A.top hu h hy)]
      exact I.lst u hu

theorem Fst.link {v w : Nat} {x : Int} (F : Fst n par tv) (hv : v < n) (hw : w < n) (hp : par v = -1) (hr : ¬ Rt par w v)
    (hx : -9223372036854775808 ≤ x ∧ x < 9223372036854775808) : Fst n (upd par v w) (upd tv v x) := by
  obtain ⟨d, hd⟩ := F.acy
  refine ⟨?_, ?_, ?_, ?_⟩
  · intro u hu
    unfold upd
    split
    · exact .inr ⟨w, rfl, hw⟩
    · exact F.pt u hu
  · have : ∀ u, Decidable (Rt par u v) := fun u => Classical.propDecidable _
    refine ⟨fun u => if Rt par u v then d u + d w + 1 else d u, ?_⟩
    intro y u hy h
    show (if Rt par u v then d u + d w + 1 else d u) < (if Rt par y v then d y + d w + 1 else d y)
    unfold upd at h
    by_cases e : y = v
    · subst e
      rw [if_pos rfl] at h
      have : u = w := by omega
      subst this
      rw [if_neg hr, if_pos (Rt.self hp)]
      omega
    · rw [if_neg e] at h
      have := hd y u hy h
      by_cases k : Rt par u v
      · rw [if_pos k, if_pos (Rt.up h k)]; omega
      · rw [if_neg k]
        split <;> omega
  · intro u hu
    unfold upd
    split
    · exact hx
    · exact F.rng u hu
  · intro u hu h
    unfold upd at h ⊢
    by_cases e : u = v
    · rw [if_pos e] at h; omega
    · rw [if_neg e] at h ⊢
      exact F.zero u hu h

/-- v leaves its parent. -/
theorem AccR.cut {v c : Nat} (A : AccR n st L par tv pd v) (F : Fst n par tv) (hv : v < n) (hc : st v 0 = c) :
    Inv n (pullS (upd2 (upd2 (upd2 st c 2 (-1)) v 0 (-1)) v 3 0) v) (fun u => if u = v then [v] else L u) (upd par v (-1)) (upd tv v 0) (fun u => if u = c then 0 else pd u) := by
  have I := A.inv
  have hcc : Ch st v c := .inl hc
  have hcn := (I.ch v c hv hcc)
  have cv : c ≠ v := I.chNe hv hcc
  have l1 : st v 1 < 0 := A.rt
  have pdz : w64 (pd c) = w64 0 := by rw [I.pdc v c hv hcc, A.p0, A.a0]; rfl
  have l3 : least3 (upd2 (upd2 (upd2 st c 2 (-1)) v 0 (-1)) v 3 0) v = 0 := by
    rw [least3_eq]
    have e0 : upd2 (upd2 (upd2 st c 2 (-1)) v 0 (-1)) v 3 0 v 0 = -1 := by simp [upd2]
    have e1 : upd2 (upd2 (upd2 st c 2 (-1)) v 0 (-1)) v 3 0 v 1 = st v 1 := by simp [upd2]
    have e3 : upd2 (upd2 (upd2 st c 2 (-1)) v 0 (-1)) v 3 0 v 3 = 0 := by simp [upd2]
    rw [e0, e1, e3]
    unfold lstep
    rw [if_neg (by omega), if_neg (by omega)]
  generalize hst : pullS (upd2 (upd2 (upd2 st c 2 (-1)) v 0 (-1)) v 3 0) v = st'
  have E : ∀ u j, st' u j = if u = v then (if j = 0 then -1 else if j = 3 ∨ j = 4 then 0 else st v j) else if u = c ∧ j = 2 then -1 else st u j := by
    intro u j
    rw [← hst]
    unfold pullS
    rw [l3]
    unfold upd2
    by_cases hu : u = v
    · subst hu
      have : ¬ u = c := fun h => cv h.symm
      by_cases j0 : j = 0
      · subst j0; simp
      · by_cases j3 : j = 3
        · subst j3; simp
        · by_cases j4 : j = 4
          · subst j4; simp
          · simp [j0, j3, j4, this]
    · simp [hu]
  have nch : ∀ u, u < n → ¬ Ch st u v := fun u hu h => A.top u (I.ch u v hu h).2 h
  have CH : ∀ u y, u < n → Ch st' u y → u ≠ v ∧ Ch st u y ∧ y ≠ c ∧ y ≠ v := by
    intro u y hu h
    by_cases huv : u = v
    · subst huv
      exfalso
      rcases h with h | h
      · rw [E, if_pos rfl, if_pos rfl] at h; omega
      · rw [E, if_pos rfl, if_neg (by omega), if_neg (by omega)] at h; omega
    · have h' : Ch st u y := by
        unfold Ch at h ⊢
        rw [E, E, if_neg huv, if_neg huv, if_neg (by omega), if_neg (by omega)] at h
        exact h
      refine ⟨huv, h', ?_, ?_⟩
      · rintro rfl
        have := (I.ch u y hu h').2
        omega
      · rintro rfl
        exact nch u hu h'
  have CH2 : ∀ u y, u ≠ v → Ch st u y → Ch st' u y := by
    intro u y huv h
    unfold Ch at h ⊢
    rw [E, E, if_neg huv, if_neg huv, if_neg (by omega), if_neg (by omega)]
    exact h
  have tv' : ∀ u, u ≠ v → upd tv v 0 u = tv u := fun u hu => if_neg hu
  have par' : ∀ u, u ≠ v → upd par v (-1) u = par u := fun u hu => if_neg hu
  have tvv : upd tv v 0 v = 0 := if_pos rfl
  have parv : upd par v (-1) v = -1 := if_pos rfl
  generalize hpd : (fun u => if u = c then (0 : Int) else pd u) = pd'
  have pdD : ∀ w, pd' w = if w = c then (0 : Int) else pd w := fun w => by rw [← hpd]
  have pdE : ∀ w, w64 (pd' w) = w64 (pd w) := by
    intro w
    rw [pdD]
    by_cases h : w = c
    · rw [if_pos h, h, pdz]
    · rw [if_neg h]
  have lvE : L v = L c ++ [v] := by
    rw [I.ino v hv, hc, LL_nat, LL_neg l1]
  have TOP : ∀ u, u < n → u ≠ v → Top st' u → u = c ∨ (u ≠ c ∧ Top st u) := by
    intro u hu huv hT
    by_cases e : u = c
    · exact .inl e
    · refine .inr ⟨e, fun y hy hc' => ?_⟩
      by_cases e2 : y = v
      · subst e2
        rcases hc' with k | k <;> omega
      · exact hT y (by rw [E, if_neg huv, if_neg (by omega)]; exact hy) (CH2 y u e2 hc')
  refine ⟨?_, ?_, ?_, ?_, ?_, ?_, ?_, ?_, ?_⟩
  · intro u y hu h
    obtain ⟨h1, h2, h3, h4⟩ := CH u y hu h
    rw [E, if_neg h4, if_neg (by omega)]
    exact I.ch u y hu h2
  · intro u hu
    rw [E]
    by_cases h : u = v
    · subst h
      rw [if_pos rfl, if_neg (by omega), if_neg (by omega)]
      exact I.up u hu
    · rw [if_neg h]
      split
      · exact .inl (by omega)
      · exact I.up u hu
  · intro u hu
    by_cases h : u = v
    · subst h
      rw [E, E, if_pos rfl, if_pos rfl, if_pos rfl, if_pos rfl, if_neg (by omega), if_neg (by omega), LL_neg (by omega), LL_neg l1]
      rfl
    · rw [E, E, if_neg h, if_neg h, if_neg h, if_neg (by omega), if_neg (by omega), I.ino u hu]
      have q : ∀ z : Int, z ≠ v → LL (fun u => if u = v then [v] else L u) z = LL L z := by
        intro z hz
        unfold LL
        split
        · exact if_neg (by omega)
        · rfl
      rw [q, q]
      · exact fun h => nch u hu (.inr h)
      · exact fun h => nch u hu (.inl h)
  · intro u hu
    by_cases h : u = v
    · show Chn _ (if u = v then [v] else L u)
      rw [if_pos h]; trivial
    · show Chn _ (if u = v then [v] else L u)
      rw [if_neg h]
      exact (I.chn u hu).congr fun y hy => par' y (I.nmem A.top hu h hy)
  · intro u hu hT
    show ∃ a l, (if u = v then [v] else L u) = a :: l ∧ _
    by_cases h : u = v
    · subst h
      rw [if_pos rfl]
      refine ⟨u, [], rfl, ?_⟩
      rw [parv, E, if_pos rfl, if_neg (by omega), if_neg (by omega), A.up]
    · rw [if_neg h]
      rcases TOP u hu h hT with e | ⟨e, hT'⟩
      · subst e
        rw [E, if_neg h, if_pos ⟨rfl, rfl⟩]
        obtain ⟨a, l, e1, e2⟩ := I.hd v hv A.top
        rw [lvE] at e1
        cases hl : L u with
        | nil => have := I.self hu; rw [hl] at this; cases this
        | cons b l' =>
          rw [hl] at e1
          simp at e1
          refine ⟨b, l', rfl, ?_⟩
          rw [par' b (I.nmem A.top hu h (by rw [hl]; simp)), e1.1, e2, A.up]
      · obtain ⟨a, l, e1, e2⟩ := I.hd u hu hT'
        refine ⟨a, l, e1, ?_⟩
        rw [par' a (I.nmem A.top hu h (by rw [e1]; simp)), E, if_neg h, if_neg (by omega), e2]
  · intro u hu hT
    rw [pdD]
    by_cases e : u = c
    · rw [if_pos e]
    · rw [if_neg e]
      by_cases h : u = v
      · subst h; exact A.p0
      · rcases TOP u hu h hT with e' | ⟨_, hT'⟩
        · exact absurd e' e
        · exact I.pdt u hu hT'
  · intro u y hu h
    obtain ⟨h1, h2, h3, h4⟩ := CH u y hu h
    rw [pdE, I.pdc u y hu h2, E, if_neg h1, if_neg (by omega)]
    obtain ⟨k, hk⟩ := w64_cg.1 (pdE u)
    exact w64_of ⟨-k, by omega⟩
  · intro u hu
    rw [E]
    by_cases h : u = v
    · subst h
      have e1 : pd' u = 0 := by rw [pdD, if_neg (fun h => cv h.symm)]; exact A.p0
      rw [if_pos rfl, if_neg (by omega), if_pos (.inl rfl), tvv, e1]
      rfl
    · rw [if_neg h, if_neg (by omega), tv' u h, I.val u hu]
      exact Inv.pd_cg (pdE u)
  · intro u hu
    rw [E]
    by_cases h : u = v
    · subst h
      have e1 : pd' u = 0 := by rw [pdD, if_neg (fun h => cv h.symm)]; exact A.p0
      have e2 : (if u = u then [u] else L u) = [u] := if_pos rfl
      rw [if_pos rfl, if_neg (by omega), if_pos (.inr rfl), e1, e2]
      simp only [mn, tvv]
      rfl
    · have e2 : (if u = v then [v] else L u) = L u := if_neg h
      rw [if_neg h, if_neg (by omega), e2, mn_congr fun y hy => tv' y (I.nmem A.top hu h hy), I.lst u hu]
      exact Inv.pd_cg (pdE u)

theorem Fst.cut {v : Nat} (F : Fst n par tv) (hv : v < n) : Fst n (upd par v (-1)) (upd tv v 0) := by
  obtain ⟨d, hd⟩ := F.acy
  refine ⟨?_, ⟨d, ?_⟩, ?_, ?_⟩
  · intro u hu
    unfold upd
    split
    · exact .inl rfl
    · exact F.pt u hu
  · intro y u hy h
    unfold upd at h
    split at h
    · omega
    · exact hd y u hy h
  · intro u hu
    unfold upd
    split
    · omega
    · exact F.rng u hu
  · intro u hu h
    unfold upd at h ⊢
    split
    · rfl
    · rename_i e
      rw [if_neg e] at h
      exact F.zero u hu h

end
end Go.Proofs.Ythglkcpoofenbaa

/-! Adding to a way: the plain law. -/
namespace Go.Proofs.Ythglkcpoofenbaa
open Go
set_option linter.unusedVariables false

theorem mn_add {tv tv' : Nat → Int} {x : Int} : ∀ {l : List Nat}, l ≠ [] → (∀ y ∈ l, tv' y = tv y + x) → (∀ y ∈ l, tv y < 9223372036854775808 ∧ tv' y < 9223372036854775808) → mn tv' l = mn tv l + x := by
  intro l
  induction l with
  | nil => intro h; exact absurd rfl h
  | cons a l ih =>
    intro _ h hr
    have ha := h a (by simp)
    have hra := hr a (by simp)
    simp only [mn]
    cases l with
    | nil => simp only [mn]; omega
    | cons b l =>
      have := ih (by simp) (fun y hy => h y (List.mem_cons_of_mem _ hy)) (fun y hy => hr y (List.mem_cons_of_mem _ hy))
      rw [this, ha]
      omega
theorem Chn.par_of {par : Nat → Int} : ∀ {l : List Nat} {a : Nat}, Chn par (a :: l) → ∀ x ∈ l, ∃ u : Nat, par x = u := by
  intro l
  induction l with
  | nil => intro a _ x hx; cases hx
  | cons b l ih =>
    intro a h x hx
    rcases List.mem_cons.1 hx with rfl | hx
    · exact ⟨a, h.1⟩
    · exact ih h.2 x hx

section
variable {n : Nat} {st : St} {L : Nat → List Nat} {par tv pd : Nat → Int}

/-- What is added to the values of the nodes l. -/
def addT (tv : Nat → Int) (l : List Nat) (x : Int) : Nat → Int := fun w => if w ∈ l then tv w + x else tv w

theorem Fst.add {l : List Nat} {x : Int} (F : Fst n par tv) (hl : ∀ w ∈ l, par w ≠ -1)
    (hr : ∀ w, w < n → -9223372036854775808 ≤ tv w + x ∧ tv w + x < 9223372036854775808) : Fst n par (addT tv l x) := by
  refine ⟨F.pt, F.acy, ?_, ?_⟩
  · intro v hv
    unfold addT
    split
    · exact hr v hv
    · exact F.rng v hv
  · intro v hv h
    unfold addT
    rw [if_neg (fun hm => hl v hm h)]
    exact F.zero v hv h

theorem RootR.tail {r v : Nat} (A : RootR n st L par tv pd r v) : L r = r :: LL L (st r 1) := by
  rw [A.inv.ino r A.rn, LL_neg A.lf]; rfl

theorem RootR.add {r v : Nat} {x : Int} (A : RootR n st L par tv pd r v) (F : Fst n par tv)
    (hr : ∀ w, w < n → -9223372036854775808 ≤ tv w + x ∧ tv w + x < 9223372036854775808) :
    ∃ pd', Inv n (pullS (raiseS st (st r 1) x) r) L par (addT tv (LL L (st r 1)) x) pd' := by
  have I := A.inv
  have hrn := A.rn
  have tl := A.tail
  have hrng : ∀ w l, w < n → -9223372036854775808 ≤ addT tv l x w ∧ addT tv l x w < 9223372036854775808 := by
    intro w l hw
    unfold addT
    split
    · exact hr w hw
    · exact F.rng w hw
  rcases pt_of I hrn (k := 1) (by decide) with h0 | ⟨c, hc, hcn⟩
  · -- the root alone
    refine ⟨pd, ?_⟩
    rw [raiseS_neg h0, LL_neg h0]
    have et : addT tv [] x = tv := by funext w; exact if_neg (by simp)
    rw [et]
    have l3 : least3 st r = mn tv (L r) := by
      refine least3_ok ?_ ?_ (I.ino r hrn) (fun a ha => (F.rng a (I.lt r hrn a ha)).2)
      · rw [I.val r hrn, A.p0, Int.sub_zero, w64_in (F.rng r hrn).1 (F.rng r hrn).2]
      · intro c hc
        exact I.lstZ F (I.ch r c hrn hc).1 (by rw [I.pdc r c hrn hc, A.p0, A.a0]; rfl)
    have e4 : st r 4 = mn tv (L r) := I.lstZ F hrn (by rw [A.p0])
    have : pullS st r = st := by
      funext w j
      unfold pullS upd2
      rw [l3]
      split
      · rename_i h; obtain ⟨rfl, rfl⟩ := h; exact e4.symm
      · rfl
    rw [this]; exact I
  · rw [hc, LL_nat]
    have hcc : Ch st r c := .inr hc
    have tl' : L r = r :: L c := by rw [tl, hc, LL_nat]
    have cr : c ≠ r := I.chNe hrn hcc
    have nr : r ∉ L c := by
      have := I.nodup F hrn
      rw [tl'] at this
      exact (List.nodup_cons.1 this).1
    have c2 : st c 2 = r := (I.ch r c hrn hcc).2
    have pcz : w64 (pd c) = w64 0 := by rw [I.pdc r c hrn hcc, A.p0, A.a0]; rfl
    generalize htv : addT tv (L c) x = tv'
    have tvD : ∀ w, tv' w = if w ∈ L c then tv w + x else tv w := fun w => by rw [← htv]; rfl
    have tvr : ∀ w, w < n → -9223372036854775808 ≤ tv' w ∧ tv' w < 9223372036854775808 := fun w hw => by rw [← htv]; exact hrng w _ hw
    generalize hpd : (fun w => if w ∈ L c ∧ w ≠ c then pd w + x else pd w) = pd'
    have pdD : ∀ w, pd' w = if w ∈ L c ∧ w ≠ c then pd w + x else pd w := fun w => by rw [← hpd]
    generalize hst : pullS (raiseS st c x) r = st'
    have E : ∀ w j, j ≠ 4 → st' w j = if w = c ∧ (j = 3 ∨ j = 5) then w64 (st w j + x) else st w j := by
      intro w j hj
      rw [← hst]
      unfold pullS
      show upd2 _ r 4 _ w j = _
      unfold upd2
      rw [if_neg (by omega), raiseS_at]
      congr 1
      exact propext ⟨fun ⟨a, b⟩ => ⟨a, by omega⟩, fun ⟨a, b⟩ => ⟨a, by omega⟩⟩
    have E4 : ∀ w, st' w 4 = if w = r then least3 (raiseS st c x) r else if w = c then w64 (st w 4 + x) else st w 4 := by
      intro w
      rw [← hst]
      unfold pullS
      show upd2 _ r 4 _ w 4 = _
      unfold upd2
      by_cases h : w = r
      · rw [if_pos ⟨h, rfl⟩, if_pos h]
      · rw [if_neg (fun k => h k.1), if_neg h, raiseS_at]
        congr 1
        exact propext ⟨fun ⟨a, b⟩ => a, fun a => ⟨a, by omega⟩⟩
    have lk : ∀ w j, j < 3 → st' w j = st w j := fun w j hj => by rw [E w j (by omega), if_neg (by omega)]
    -- children and the set below c
    have chm : ∀ u y, u < n → Ch st u y → (y ∈ L c ↔ u ∈ L c ∨ y = c) := by
      intro u y hu h
      constructor
      · intro hy
        rcases I.anc c hcn y hy with h1 | ⟨z, hz, hzn, hcz, hzc⟩
        · exact .inr h1
        · have := (I.ch u y hu h).2
          have e : z = u := by omega
          subst e
          exact .inl hzc
      · rintro (h1 | rfl)
        · exact I.mtrans c hcn u h1 y (I.sub hu h (I.self (I.ch u y hu h).1))
        · exact I.self hcn
    have chc : ∀ u y, u < n → Ch st u y → y = c → u = r := by
      rintro u y hu h rfl
      have := (I.ch u y hu h).2
      omega
    have least_c : mn tv' (L c) = mn tv (L c) + x := by
      refine mn_add (fun h => by have := I.self hcn; rw [h] at this; cases this) (fun y hy => by rw [tvD, if_pos hy]) (fun y hy => ?_)
      have := I.lt c hcn y hy
      exact ⟨(F.rng y this).2, (tvr y this).2⟩
    have rngR : ∀ a ∈ L r, a < n := I.lt r hrn
    have mnr : ∀ w, w < n → -9223372036854775808 ≤ mn tv' (L w) ∧ mn tv' (L w) < 9223372036854775808 := fun w hw =>
      ⟨mn_low _ fun a ha => (tvr a (I.lt w hw a ha)).1, mn_high (I.self hw) (tvr w hw).2⟩
    refine ⟨pd', ⟨?_, ?_, ?_, I.chn, ?_, ?_, ?_, ?_, ?_⟩⟩
    · intro u y hu h
      rw [lk _ _ (by decide)]
      exact I.ch u y hu ((Ch.congr lk).1 h)
    · intro u hu
      rw [lk _ _ (by decide)]; exact I.up u hu
    · intro u hu
      rw [lk _ _ (by decide), lk _ _ (by decide)]; exact I.ino u hu
    · intro u hu hT
      rw [lk _ _ (by decide)]
      exact I.hd u hu ((Top.congr lk).1 hT)
    · intro u hu hT
      have hT := (Top.congr lk).1 hT
      rw [pdD, if_neg]
      · exact I.pdt u hu hT
      · rintro ⟨h1, h2⟩
        exact h2 (I.top_of_mem hcn h1 hT)
    · intro u y hu h
      replace h := (Ch.congr lk).1 h
      have k := I.pdc u y hu h
      have m := chm u y hu h
      rw [E _ _ (by decide), pdD, pdD]
      by_cases hy : y = c
      · have hur := chc u y hu h hy
        subst hur
        rw [if_neg (fun h => h.2 hy), if_neg (fun h => nr h.1), if_neg (fun h => cr h.1.symm)]
        exact k
      · by_cases hm : u ∈ L c
        · rw [if_pos ⟨m.2 (.inl hm), hy⟩]
          by_cases huc : u = c
          · subst huc
            rw [if_neg (fun h => h.2 rfl), if_pos ⟨rfl, .inr rfl⟩]
            obtain ⟨i, hi⟩ := w64_cg.1 k
            obtain ⟨j, hj, _⟩ := w64_eq (st u 5 + x)
            exact w64_of ⟨i - j, by omega⟩
          · rw [if_pos ⟨hm, huc⟩, if_neg (fun h => huc h.1)]
            obtain ⟨i, hi⟩ := w64_cg.1 k
            exact w64_of ⟨i, by omega⟩
        · have : ¬ y ∈ L c := fun h => (m.1 h).elim hm hy
          rw [if_neg (fun h => this h.1), if_neg (fun h => hm h.1), if_neg (fun h => hm (by rw [h.1]; exact I.self hcn))]
          exact k
    · intro u hu
      rw [E _ _ (by decide), pdD, tvD]
      by_cases huc : u = c
      · subst huc
        rw [if_pos ⟨rfl, .inl rfl⟩, if_pos (I.self hcn), if_neg (fun h => h.2 rfl), I.val u hu]
        obtain ⟨j, hj, _⟩ := w64_eq (tv u - pd u)
        exact w64_of ⟨j, by omega⟩
      · rw [if_neg (fun h => huc h.1), I.val u hu]
        by_cases hm : u ∈ L c
        · rw [if_pos hm, if_pos ⟨hm, huc⟩]
          congr 1; omega
        · rw [if_neg hm, if_neg (fun h => hm h.1)]
    · intro u hu
      rw [E4, pdD]
      by_cases hur : u = r
      · subst hur
        rw [if_pos rfl, if_neg (fun h => nr h.1), A.p0, Int.sub_zero, w64_in (mnr u hu).1 (mnr u hu).2]
        refine least3_ok ?_ ?_ ?_ (fun a ha => (tvr a (rngR a ha)).2)
        · rw [raiseS_at, if_neg (fun h => cr h.1.symm), I.val u hu, A.p0, Int.sub_zero, w64_in (F.rng u hu).1 (F.rng u hu).2, tvD, if_neg nr]
        · intro y hy
          have hy' : Ch st u y := by
            unfold Ch at hy ⊢
            rw [raiseS_at, raiseS_at, if_neg (by omega), if_neg (by omega)] at hy
            exact hy
          have hyc : y = c := by
            rcases hy' with h | h
            · have := A.lf; omega
            · omega
          subst hyc
          rw [raiseS_at, if_pos ⟨rfl, by omega⟩, I.lstZ F hcn pcz, ← least_c, w64_in (mnr y hcn).1 (mnr y hcn).2]
        · rw [raiseS_at, raiseS_at, if_neg (by omega), if_neg (by omega)]
          exact I.ino u hu
      · rw [if_neg hur]
        by_cases huc : u = c
        · subst huc
          rw [if_pos rfl, if_neg (fun h => h.2 rfl), least_c, I.lst u hu]
          obtain ⟨j, hj, _⟩ := w64_eq (mn tv (L u) - pd u)
          exact w64_of ⟨j, by omega⟩
        · rw [if_neg huc]
          by_cases hm : u ∈ L c
          · rw [if_pos ⟨hm, huc⟩]
            have : mn tv' (L u) = mn tv (L u) + x := by
              refine mn_add (fun h => by have := I.self hu; rw [h] at this; cases this) (fun y hy => by rw [tvD, if_pos (I.mtrans c hcn u hm y hy)]) (fun y hy => ?_)
              have := I.lt u hu y hy
              exact ⟨(F.rng y this).2, (tvr y this).2⟩
            rw [this, I.lst u hu]
            congr 1; omega
          · rw [if_neg (fun h => hm h.1), I.lst u hu]
            have : mn tv' (L u) = mn tv (L u) := by
              refine mn_congr fun y hy => ?_
              rw [tvD, if_neg]
              intro hyc
              rcases I.cmp hcn u hu y hy hyc with h | h
              · exact hm h
              · rcases I.anc u hu c h with h1 | ⟨z, hz, _, _, hzu⟩
                · exact huc h1.symm
                · have : z = r := by omega
                  subst this
                  exact hur (I.top_of_mem hu hzu A.top).symm
            rw [this]

end
end Go.Proofs.Ythglkcpoofenbaa

/-! The forest's exported functions. -/
namespace Go.Proofs.Ythglkcpoofenbaa
open Go
set_option linter.unusedVariables false

/-- In h there is a forest of n nodes at bf (its nodes at bn), which means par and tv. -/
structure Forest (h : H) (bf bn n : Nat) (par tv : Nat → Int) : Prop where
  small : n ≤ 1024
  fst : Fst n par tv
  ex : ∃ e st L pd, Fz h bf bn e n st ∧ Inv n st L par tv pd

def isN (n : Nat) (v : Int) : Prop := 0 ≤ v ∧ v < (n : Int)
instance (n : Nat) (v : Int) : Decidable (isN n v) := inferInstanceAs (Decidable (_ ∧ _))
def isL (x : Int) : Prop := -1048576 ≤ x ∧ x ≤ 1048576
instance (x : Int) : Decidable (isL x) := inferInstanceAs (Decidable (_ ∧ _))
def childC (n : Nat) (par : Nat → Int) (v : Int) : Int := if isN n v then (if par v.toNat = -1 then 70 else 0) else 30

theorem isN_false {n : Nat} {v : Int} (h : (!decide (0 ≤ v ∧ v < (n : Int))) = true) : ¬ isN n v := fun k => by
  unfold isN at k
  rw [decide_eq_true k] at h
  cases h
theorem isL_false {x : Int} (h : (!decide (-1048576 ≤ x ∧ x ≤ 1048576)) = true) : ¬ isL x := fun k => by
  unfold isL at k
  rw [decide_eq_true k] at h
  cases h
theorem isN_true {n : Nat} {v : Int} (h : (!decide (0 ≤ v ∧ v < (n : Int))) = false) : isN n v := by unfold isN; simpa using h
theorem isL_true {x : Int} (h : (!decide (-1048576 ≤ x ∧ x ≤ 1048576)) = false) : isL x := by unfold isL; simpa using h
theorem isN.nat {n : Nat} {v : Int} (h : isN n v) : ∃ w : Nat, v = w ∧ w < n := ⟨v.toNat, by unfold isN at h; omega, by unfold isN at h; omega⟩
theorem isN_of {n w : Nat} (h : w < n) : isN n (w : Int) := by unfold isN; omega
theorem childC_nat {n w : Nat} {par : Nat → Int} (h : w < n) : childC n par (w : Int) = if par w = -1 then 70 else 0 := by
  unfold childC
  rw [if_pos (isN_of h), Int.toNat_natCast]

section
variable {bf bn n : Nat} {h : H} {par tv : Nat → Int}

theorem Forest.hd (P : Forest h bf bn n par tv) : Hd h bf bn n := by
  obtain ⟨e, st, L, pd, f, _⟩ := P.ex
  exact f.hd

theorem Root_T (P : Forest h bf bn n par tv) (v : Int) :
    T Try.prog F.links_Forest_Root [fo bf, .int .i64 v] h fun r h' => Kp bn h h' ∧ Forest h' bf bn n par tv ∧
      ((¬ isN n v ∧ r = .ret (.tuple ⟨[.int .i64 0, .int .i64 30]⟩)) ∨ ∃ w x : Nat, v = w ∧ w < n ∧ Rt par w x ∧ x < n ∧ r = .ret (.tuple ⟨[vi x, .int .i64 0]⟩)) := by
  refine E_links_Forest_Root ?_
  unfold B_links_Forest_Root
  refine (node_T P.hd v).mono ?_
  rintro _ _ ⟨rfl, rfl⟩
  refine ⟨_, rfl, ifP_of (fun hv => ?_) (fun hv => ?_)⟩
  · exact ⟨Kp.refl, P, .inl ⟨isN_false hv, rfl⟩⟩
  · have hv : isN n v := by unfold isN; simpa using hv
    obtain ⟨w, rfl, hw⟩ := hv.nat
    obtain ⟨e, st, L, pd, f, I⟩ := P.ex
    refine (root_T f I P.fst P.small hw).mono ?_
    rintro _ h' ⟨x, rfl, st', L', pd', f', kp, R⟩
    exact ⟨_, rfl, kp, ⟨P.small, P.fst, _, _, _, _, f', R.inv⟩, .inr ⟨w, x, rfl, hw, R.rt, R.rn, rfl⟩⟩

/-- A node that has an edge above it, with the way to it on top; or the error. -/
theorem child_T (P : Forest h bf bn n par tv) (v : Int) :
    T Try.prog F.links_Forest_child [fo bf, .int .i64 v] h fun r h' => Kp bn h h' ∧ Forest h' bf bn n par tv ∧ r = .ret (.int .i64 (childC n par v)) ∧
      (childC n par v = 0 → ∃ w : Nat, v = w ∧ w < n ∧ par w ≠ -1 ∧ ∃ e st L pd, Fz h' bf bn e n st ∧ AccR n st L par tv pd w) := by
  refine E_links_Forest_child ?_
  unfold B_links_Forest_child
  refine (node_T P.hd v).mono ?_
  rintro _ _ ⟨rfl, rfl⟩
  refine ⟨_, rfl, ifP_of (fun hv => ?_) (fun hv => ?_)⟩
  · have hv : ¬ isN n v := isN_false hv
    have e : childC n par v = 30 := if_neg hv
    rw [e]
    exact ⟨Kp.refl, P, rfl, fun h => by omega⟩
  · have hv : isN n v := by unfold isN; simpa using hv
    obtain ⟨w, rfl, hw⟩ := hv.nat
    obtain ⟨e, st, L, pd, f, I⟩ := P.ex
    refine (root_T f I P.fst P.small hw).mono ?_
    rintro _ h' ⟨x, rfl, st', L', pd', f', kp, R⟩
    rw [childC_nat hw]
    refine ⟨_, rfl, ifP_of (fun hx => ?_) (fun hx => ?_)⟩
    · have hx : x = w := by have := of_decide_eq_true hx; omega
      subst hx
      rw [if_pos R.root]
      exact ⟨kp, ⟨P.small, P.fst, _, _, _, _, f', R.inv⟩, rfl, fun h => by omega⟩
    · have hx : x ≠ w := by have := of_decide_eq_false hx; omega
      have hp : par w ≠ -1 := fun hp => hx (R.rt.uniq (Rt.self hp))
      rw [if_neg hp]
      refine (access_T f' R.inv P.fst P.small hw).mono ?_
      rintro _ h2 ⟨rfl, st2, L2, pd2, f2, kp2, A⟩
      exact ⟨rfl, kp.trans kp2, ⟨P.small, P.fst, _, _, _, _, f2, A.inv⟩, rfl, fun _ => ⟨w, rfl, hw, hp, _, _, _, _, f2, A⟩⟩

theorem Cut_T (P : Forest h bf bn n par tv) (v : Int) :
    T Try.prog F.links_Forest_Cut [fo bf, .int .i64 v] h fun r h' => Kp bn h h' ∧
      r = .ret (.tuple ⟨[.int .i64 (if childC n par v = 0 then tv v.toNat else 0), .int .i64 (childC n par v)]⟩) ∧
      (childC n par v = 0 → Forest h' bf bn n (upd par v.toNat (-1)) (upd tv v.toNat 0)) ∧ (childC n par v ≠ 0 → Forest h' bf bn n par tv) := by
  refine E_links_Forest_Cut ?_
  unfold B_links_Forest_Cut
  refine (child_T P v).mono ?_
  rintro _ h' ⟨kp, P', rfl, hc⟩
  refine ⟨_, rfl, ifP_of (fun h0 => ?_) (fun h0 => ?_)⟩
  · have h0 : ¬ childC n par v = 0 := by simpa using h0
    rw [if_neg h0]
    exact ⟨kp, rfl, fun h => absurd h h0, fun _ => P'⟩
  · have h0 : childC n par v = 0 := by simpa using h0
    obtain ⟨w, rfl, hw, hp, e, st, L, pd, f, A⟩ := hc h0
    rw [if_pos h0, h0]
    have ul := A.upw hw
    obtain ⟨c, hlc⟩ : ∃ c : Nat, st w 0 = c := by
      rcases pt_of A.inv hw (k := 0) (by decide) with h | ⟨c, h, _⟩
      · exfalso
        have e1 : L w = [w] := by rw [A.inv.ino w hw, LL_neg h, LL_neg A.rt]; rfl
        rw [e1] at ul
        cases ul with
        | root h => exact hp h
        | step _ h => cases h
      · exact ⟨c, h⟩
    have hcn := (A.inv.ch w c hw (.inl hlc)).1
    have cw := A.inv.chNe hw (.inl hlc)
    refine nd f.hd hw ⟨_, f.hd.ld, _, f.ld hw (by decide), ?_⟩
    rw [hlc]
    refine nx hcn ⟨f.wr hcn (by decide), ?_⟩
    rw [f.set hcn (by decide)]
    have f1 := f.next (st' := upd2 st c 2 (-1))
    refine ⟨f1.wr hw (by decide), ?_⟩
    rw [f1.set hw (by decide), fp_fp]
    have f2 := f.next (st' := upd2 (upd2 st c 2 (-1)) w 0 (-1))
    refine ⟨_, f2.ld hw (by decide), f2.wr hw (by decide), ?_⟩
    rw [f2.set hw (by decide), fp_fp]
    have f3 := f.next (st' := upd2 (upd2 (upd2 st c 2 (-1)) w 0 (-1)) w 3 0)
    have e3 : upd2 (upd2 st c 2 (-1)) w 0 (-1) w 3 = tv w := by
      have : upd2 (upd2 st c 2 (-1)) w 0 (-1) w 3 = st w 3 := by simp [upd2]
      rw [this, A.inv.val w hw, A.p0, Int.sub_zero, w64_in (P.fst.rng w hw).1 (P.fst.rng w hw).2]
    rw [e3]
    refine (pull_A f3 hw ?_ ?_).mono ?_
    · have : upd2 (upd2 (upd2 st c 2 (-1)) w 0 (-1)) w 3 0 w 0 = -1 := by simp [upd2]
      rw [this]; exact .inl (by omega)
    · have : upd2 (upd2 (upd2 st c 2 (-1)) w 0 (-1)) w 3 0 w 1 = st w 1 := by simp [upd2]
      rw [this]; exact .inl A.rt
    rintro _ _ ⟨rfl, rfl⟩
    rw [fp_fp]
    refine ⟨rfl, kp.trans Kp.fp, rfl, fun _ => ?_, fun h => absurd rfl h⟩
    rw [Int.toNat_natCast]
    exact ⟨P.small, P.fst.cut hw, _, _, _, _, f.next, A.cut P.fst hw hlc⟩

end
end Go.Proofs.Ythglkcpoofenbaa

/-! The forest's exported functions: Link, Add, Least, New. -/
namespace Go.Proofs.Ythglkcpoofenbaa
open Go
set_option linter.unusedVariables false

/-- What Link answers, and the forest then. -/
inductive LinkS (n : Nat) (par tv : Nat → Int) (v w x : Int) : Int → (Nat → Int) → (Nat → Int) → Prop
  | node : ¬ (isN n v ∧ isN n w) → LinkS n par tv v w x 30 par tv
  | label : isN n v → isN n w → ¬ isL x → LinkS n par tv v w x 31 par tv
  | root : isN n v → isN n w → isL x → par v.toNat ≠ -1 → LinkS n par tv v w x 70 par tv
  | cycle : isN n v → isN n w → isL x → par v.toNat = -1 → Rt par w.toNat v.toNat → LinkS n par tv v w x 71 par tv
  | ok : isN n v → isN n w → isL x → par v.toNat = -1 → ¬ Rt par w.toNat v.toNat → LinkS n par tv v w x 0 (upd par v.toNat w) (upd tv v.toNat x)

/-- The nodes of a way that have an edge above. -/
def edges (par : Nat → Int) (l : List Nat) : List Nat := l.filter fun w => decide (par w ≠ -1)

/-- What Add answers, and the values then. -/
inductive AddS (n : Nat) (par tv : Nat → Int) (v x : Int) : Int → (Nat → Int) → Prop
  | node : ¬ isN n v → AddS n par tv v x 30 tv
  | label : isN n v → ¬ isL x → AddS n par tv v x 31 tv
  | ok {l : List Nat} : isN n v → isL x → UpW par v.toNat l → AddS n par tv v x 0 (addT tv (edges par l) x)

/-- What Least answers. -/
inductive LeastS (n : Nat) (par tv : Nat → Int) (v : Int) : Int → Int → Int → Prop
  | bad : childC n par v ≠ 0 → LeastS n par tv v 0 0 (childC n par v)
  | ok {A B : List Nat} {a r : Nat} : childC n par v = 0 → UpW par v.toNat (A ++ a :: B ++ [r]) → (∀ w ∈ A, tv a ≤ tv w) → (∀ w ∈ B, tv a < tv w) → LeastS n par tv v a (tv a) 0

section
variable {bf bn n : Nat} {h : H} {par tv : Nat → Int}

theorem Link_T (P : Forest h bf bn n par tv) (v w x : Int) :
    T Try.prog F.links_Forest_Link [fo bf, .int .i64 v, .int .i64 w, .int .i64 x] h fun r h' => Kp bn h h' ∧ ∃ c par' tv', r = .ret (.int .i64 c) ∧ LinkS n par tv v w x c par' tv' ∧ Forest h' bf bn n par' tv' := by
  refine E_links_Forest_Link ?_
  unfold B_links_Forest_Link
  refine (node_T P.hd v).mono ?_
  rintro _ _ ⟨rfl, rfl⟩
  refine ⟨_, rfl, ifP_of (fun hv => ?_) (fun hv => ?_)⟩
  · exact ⟨Kp.refl, _, _, _, rfl, .node (fun h => isN_false hv h.1), P⟩
  have hv := isN_true hv
  refine (node_T P.hd w).mono ?_
  rintro _ _ ⟨rfl, rfl⟩
  refine ⟨_, rfl, ifP_of (fun hw => ?_) (fun hw => ?_)⟩
  · exact ⟨Kp.refl, _, _, _, rfl, .node (fun h => isN_false hw h.2), P⟩
  have hw := isN_true hw
  refine (label_T x).mono ?_
  rintro _ _ ⟨rfl, rfl⟩
  refine ⟨_, rfl, ifP_of (fun hx => ?_) (fun hx => ?_)⟩
  · exact ⟨Kp.refl, _, _, _, rfl, .label hv hw (isL_false hx), P⟩
  have hx := isL_true hx
  obtain ⟨e, st, L, pd, f, I⟩ := P.ex
  obtain ⟨v, rfl, hvn⟩ := hv.nat
  obtain ⟨w, rfl, hwn⟩ := hw.nat
  refine (root_T f I P.fst P.small hvn).mono ?_
  rintro _ h1 ⟨r, rfl, st1, L1, pd1, f1, kp1, R1⟩
  refine ⟨_, rfl, ifP_of (fun hr => ?_) (fun hr => ?_)⟩
  · have hr : (r : Int) ≠ v := by simpa using hr
    refine ⟨kp1, _, _, _, rfl, .root hv hw hx ?_, ⟨P.small, P.fst, _, _, _, _, f1, R1.inv⟩⟩
    rw [Int.toNat_natCast]
    exact fun hp => hr (by rw [R1.rt.uniq (Rt.self hp)])
  have hr : (r : Int) = v := by simpa using hr
  have hr : r = v := by omega
  subst hr
  refine (root_T f1 R1.inv P.fst P.small hwn).mono ?_
  rintro _ h2 ⟨r2, rfl, st2, L2, pd2, f2, kp2, R2⟩
  refine ⟨_, rfl, ifP_of (fun hr2 => ?_) (fun hr2 => ?_)⟩
  · have hr2 : (r2 : Int) = r := by simpa using hr2
    have hr2 : r2 = r := by omega
    subst hr2
    refine ⟨kp1.trans kp2, _, _, _, rfl, .cycle hv hw hx ?_ ?_, ⟨P.small, P.fst, _, _, _, _, f2, R2.inv⟩⟩
    · rw [Int.toNat_natCast]; exact R1.root
    · rw [Int.toNat_natCast, Int.toNat_natCast]; exact R2.rt
  have hr2 : (r2 : Int) ≠ r := by simpa using hr2
  have nrt : ¬ Rt par w r := fun hh => hr2 (by rw [R2.rt.uniq hh])
  refine (access_T f2 R2.inv P.fst P.small hvn).mono ?_
  rintro _ h3 ⟨rfl, st3, L3, pd3, f3, kp3, A⟩
  refine ⟨rfl, nd f3.hd hvn ⟨f3.wr hvn (by decide), ?_⟩⟩
  rw [f3.set hvn (by decide)]
  have f4 := f3.next (st' := upd2 st3 r 3 x)
  have q : ∀ k, k < 3 → upd2 st3 r 3 x r k = st3 r k := fun k hk => if_neg (by omega)
  refine (pull_A f4 hvn (by rw [q _ (by decide)]; exact pc_of A.inv hvn (by decide)) (by rw [q _ (by decide)]; exact pc_of A.inv hvn (by decide))).mono ?_
  rintro _ _ ⟨rfl, rfl⟩
  rw [fp_fp]
  refine ⟨rfl, ?_⟩
  have f5 := f3.next (st' := pullS (upd2 st3 r 3 x) r)
  refine nd f5.hd hvn ⟨f5.wr hvn (by decide), ?_⟩
  rw [f5.set hvn (by decide), fp_fp]
  have xr : -9223372036854775808 ≤ x ∧ x < 9223372036854775808 := by unfold isL at hx; omega
  have er : ((r : Nat) : Int).toNat = r := Int.toNat_natCast r
  have I' := A.link P.fst hvn hwn R1.root xr
  have F' := P.fst.link hvn hwn R1.root nrt xr
  refine ⟨((kp1.trans kp2).trans kp3).trans Kp.fp, _, _, _, rfl, .ok hv hw hx ?_ ?_, ⟨P.small, ?_, e, _, L3, pd3, f3.next, ?_⟩⟩
  · rw [er]; exact R1.root
  · rw [er, Int.toNat_natCast]; exact nrt
  · rw [er]; exact F'
  · rw [er]; exact I'

theorem RootR.edges {st : St} {L : Nat → List Nat} {pd : Nat → Int} {r v : Nat} {x : Int} (A : RootR n st L par tv pd r v) (w : Nat) :
    w ∈ LL L (st r 1) ↔ w ∈ edges par (L r).reverse := by
  have tl := A.tail
  have ch := A.inv.chn r A.rn
  rw [tl] at ch
  rw [tl]
  unfold Go.Proofs.Ythglkcpoofenbaa.edges
  simp only [List.mem_filter, List.mem_reverse, List.mem_cons, decide_eq_true_eq]
  constructor
  · intro h
    obtain ⟨u, hu⟩ := ch.par_of w h
    exact ⟨.inr h, by omega⟩
  · rintro ⟨rfl | h, h2⟩
    · exact absurd A.root h2
    · exact h

theorem Add_T (P : Forest h bf bn n par tv) (v x : Int) (hr : isL x → ∀ w, w < n → -9223372036854775808 ≤ tv w + x ∧ tv w + x < 9223372036854775808) :
    T Try.prog F.links_Forest_Add [fo bf, .int .i64 v, .int .i64 x] h fun r h' => Kp bn h h' ∧ ∃ c tv', r = .ret (.int .i64 c) ∧ AddS n par tv v x c tv' ∧ Forest h' bf bn n par tv' := by
  refine E_links_Forest_Add ?_
  unfold B_links_Forest_Add
  refine (node_T P.hd v).mono ?_
  rintro _ _ ⟨rfl, rfl⟩
  refine ⟨_, rfl, ifP_of (fun hv => ?_) (fun hv => ?_)⟩
  · exact ⟨Kp.refl, _, _, rfl, .node (isN_false hv), P⟩
  have hv := isN_true hv
  refine (label_T x).mono ?_
  rintro _ _ ⟨rfl, rfl⟩
  refine ⟨_, rfl, ifP_of (fun hx => ?_) (fun hx => ?_)⟩
  · exact ⟨Kp.refl, _, _, rfl, .label hv (isL_false hx), P⟩
  have hx := isL_true hx
  obtain ⟨e, st, L, pd, f, I⟩ := P.ex
  obtain ⟨v, rfl, hvn⟩ := hv.nat
  refine (root_T f I P.fst P.small hvn).mono ?_
  rintro _ h1 ⟨r, rfl, st1, L1, pd1, f1, kp1, R⟩
  have hrn := R.rn
  refine ⟨_, rfl, nd f1.hd hrn ⟨_, f1.ld hrn (by decide), ?_⟩⟩
  refine (raise_A f1 (pt_of R.inv hrn (by decide)) x).mono ?_
  rintro _ _ ⟨rfl, rfl⟩
  refine ⟨rfl, ?_⟩
  have f2 := f1.next (st' := raiseS st1 (st1 r 1) x)
  refine (pull_A f2 hrn (by rw [raiseS_link (by decide)]; exact pc_of R.inv hrn (by decide)) (by rw [raiseS_link (by decide)]; exact pc_of R.inv hrn (by decide))).mono ?_
  rintro _ _ ⟨rfl, rfl⟩
  rw [fp_fp]
  obtain ⟨pd', I'⟩ := R.add P.fst (hr hx)
  have et : addT tv (LL L1 (st1 r 1)) x = addT tv (edges par (L1 r).reverse) x := by
    funext w
    unfold addT
    by_cases hm : w ∈ LL L1 (st1 r 1)
    · rw [if_pos hm, if_pos ((R.edges (x := x) w).1 hm)]
    · rw [if_neg hm, if_neg (fun h => hm ((R.edges (x := x) w).2 h))]
  rw [et] at I'
  refine ⟨rfl, kp1.trans Kp.fp, _, _, rfl, .ok hv hx (by rw [Int.toNat_natCast]; exact R.upw), P.small, ?_, _, _, _, _, f1.next, I'⟩
  refine P.fst.add (fun w hw => ?_) (hr hx)
  unfold edges at hw
  simpa using (List.mem_filter.1 hw).2

theorem ints_one {n : Nat} {f : Nat → Int} : ∀ v ∈ ints n f, v.oneCell' = true := by
  intro z hz
  unfold ints at hz
  obtain ⟨i, _, rfl⟩ := List.mem_map.1 hz
  rfl
theorem st_new {h : H} {b e n : Nat} {zs vs : List Value} {K : H → Prop} (hn : vs.length = n) (hl : zs.length = n) (one : ∀ v ∈ vs, v.oneCell' = true)
    (k : K (hput h b (.cells ⟨vs⟩ e (0, 0)))) : stN (hput h b (.cells ⟨zs⟩ e (0, 0))) (bk b) vs n K := by
  refine ⟨hn, one, put_wr (i := 0) (by omega), ?_⟩
  rw [hset_put (by omega)]
  exact k
/-- A new block that is filled at once. -/
theorem new_st {h : H} {e n : Nat} {zs vs : List Value} {K : Nat → H → Prop} (hn : vs.length = n) (hl : zs.length = n) (one : ∀ v ∈ vs, v.oneCell' = true)
    (k : ∀ b g, h b = none → (∀ c, Kp c h g) → g b = some (.cells ⟨vs⟩ e (0, 0)) → (∀ i v, vs[i]? = some v → hcell g ((bk b).add i) = some v) → K b g) :
    newP h (.cells ⟨zs⟩ e (0, 0)) fun b h1 => stN h1 (bk b) vs n (K b) := by
  intro b hb
  refine st_new hn hl one ?_
  exact k b _ hb (fun c => Kp.put hb) (by simp [hput]) fun i v hi => put_ld hi

theorem mn_mem {tv : Nat → Int} : ∀ {l : List Nat}, mn tv l < 9223372036854775808 → ∃ a ∈ l, tv a = mn tv l := by
  intro l
  induction l with
  | nil => intro h; simp only [mn] at h; omega
  | cons a l ih =>
    intro h
    simp only [mn] at h ⊢
    by_cases h2 : tv a ≤ mn tv l
    · exact ⟨a, by simp, by omega⟩
    · obtain ⟨b, hb, e⟩ := ih (by omega)
      exact ⟨b, List.mem_cons_of_mem _ hb, by omega⟩

theorem Least_T (P : Forest h bf bn n par tv) (v : Int) :
    T Try.prog F.links_Forest_Least [fo bf, .int .i64 v] h fun r h' => Kp bn h h' ∧ Forest h' bf bn n par tv ∧
      ∃ a m c, r = .ret (.tuple ⟨[.int .i64 a, .int .i64 m, .int .i64 c]⟩) ∧ LeastS n par tv v a m c := by
  refine E_links_Forest_Least ?_
  unfold B_links_Forest_Least
  refine (child_T P v).mono ?_
  rintro _ h' ⟨kp, P', rfl, hc⟩
  refine ⟨_, rfl, ifP_of (fun h0 => ?_) (fun h0 => ?_)⟩
  · have h0 : ¬ childC n par v = 0 := by simpa using h0
    exact ⟨kp, P', _, _, _, rfl, .bad h0⟩
  have h0 : childC n par v = 0 := by simpa using h0
  obtain ⟨w, rfl, hw, hp, e, st, L, pd, f, A⟩ := hc h0
  refine (root_T f A.inv P.fst P.small hw).mono ?_
  rintro _ h1 ⟨r, rfl, st1, L1, pd1, f1, kp1, R⟩
  have hrn := R.rn
  have tl := R.tail
  obtain ⟨c, hc⟩ : ∃ c : Nat, st1 r 1 = c := by
    rcases pt_of R.inv hrn (k := 1) (by decide) with h | ⟨c, h, _⟩
    · exfalso
      have ul := R.upw
      rw [tl, LL_neg h] at ul
      cases ul with
      | root hh => exact hp hh
      | step _ hh => cases hh
    · exact ⟨c, h⟩
  have hcc : Ch st1 r c := .inr hc
  have hcn := (R.inv.ch r c hrn hcc).1
  rw [hc, LL_nat] at tl
  have pcz : w64 (pd1 c) = w64 0 := by rw [R.inv.pdc r c hrn hcc, R.p0, R.a0]; rfl
  have lc : st1 c 4 = mn tv (L1 c) := R.inv.lstZ P.fst hcn pcz
  refine ⟨_, rfl, nd f1.hd hrn ⟨_, f1.ld hrn (by decide), ?_⟩⟩
  rw [hc]
  refine nd f1.hd hcn ⟨_, f1.ld hcn (by decide), ?_⟩
  rw [lc]
  generalize hm : mn tv (L1 c) = m
  have mr := R.inv.mnRng P.fst c hcn
  rw [hm] at mr
  let I15 : (Int × Unit) → H → Nat → Prop := fun s g k =>
    ∃ st2 pd2 A B, ∃ u : Nat, s.1 = u ∧ u < n ∧ Fz g bf bn e n st2 ∧ Kp bn h g ∧ Inv n st2 L1 par tv pd2 ∧ w64 (pd2 u) = w64 0 ∧
      L1 c = A ++ L1 u ++ B ∧ (∀ x ∈ A, m < tv x) ∧ mn tv (L1 u) = m ∧ k = (L1 u).length
  refine ⟨fun s g => ∃ k, I15 s g k, rk I15, rk_wf I15, ⟨_, st1, pd1, [], [], c, rfl, hcn, f1, kp.trans kp1, R.inv, pcz, by simp, by simp, hm, rfl⟩, ?_⟩
  intro at' g hI
  obtain ⟨st2, pd2, X, Y, u, hu', hu, f2, kp2, J, pz, hL, hX, hmu, hk⟩ := mu_spec hI
  generalize hkk : mu I15 ((at', ()), g) = k at *
  change at' = (u : Int) at hu'
  subst hu'
  refine (push_A f2 hu (pt_of J hu (by decide)) (pt_of J hu (by decide))).mono ?_
  rintro _ _ ⟨rfl, rfl⟩
  refine ⟨rfl, ?_⟩
  have J3 := J.push P.fst hu
  have f3 : Fz (fp g bn e n 6 (pushS st2 u)) bf bn e n (pushS st2 u) := f2.next
  have chz : ∀ y, Ch (pushS st2 u) u y → w64 (pdPush st2 pd2 u y) = w64 0 := by
    intro y hy
    have := (Ch.congr (fun w j hj => pushS_link J P.fst hu w hj)).1 hy
    unfold pdPush
    rw [if_pos this, pz]
  have uz : w64 (pdPush st2 pd2 u u) = w64 0 := by
    unfold pdPush
    split <;> exact pz
  have kp3 : Kp bn h (fp g bn e n 6 (pushS st2 u)) := kp2.trans Kp.fp
  generalize pushS st2 u = st3 at *
  generalize pdPush st2 pd2 u = pd3 at *
  generalize fp g bn e n 6 st3 = g3 at *
  have v3 : st3 u 3 = tv u := by
    rw [J3.val u hu]
    obtain ⟨i, hi⟩ := w64_cg.1 uz
    have : w64 (tv u - pd3 u) = w64 (tv u) := w64_of ⟨-i, by omega⟩
    rw [this, w64_in (P.fst.rng u hu).1 (P.fst.rng u hu).2]
  have mU := J3.mnEq P.fst hu
  rw [hmu] at mU
  have inU := J3.ino u hu
  refine nd f3.hd hu ⟨ints 6 fun j => st3 u j, ints_length _ _, ?_, ?_⟩
  · intro i z hi
    have : i < 6 := by
      have := (List.getElem?_eq_some_iff.1 hi).1
      rwa [ints_length] at this
    rw [ints_get this] at hi
    cases hi
    exact f3.ld hu this
  refine new_st (ints_length _ _) rfl ints_one ?_
  intro b g4 hb kpg _ ldg
  have f4 := f3.kp (kpg b) (f3.ne hb).1 (f3.ne hb).2
  have kp4 : Kp bn h g4 := kp3.trans (kpg bn)
  have ld4 : ∀ {j : Nat}, j < 6 → hcell g4 ((bk b).add j) = some (.int .i64 (st3 u j)) := fun hj => ldg _ _ (ints_get hj)
  have stop : tv u = m → (∀ x ∈ LL L1 (st3 u 0), m < tv x) → T Try.prog F.links_Forest_splay [fo bf, vi u] g4 (rt (fun v36 h37 => v36 = .tuple ⟨[]⟩ ∧
      (Kp bn h h37 ∧ Forest h37 bf bn n par tv ∧ ∃ a m' c, Res.ret (.tuple ⟨[vi u, .int .i64 m, .int .i64 0]⟩) = Res.ret (.tuple ⟨[.int .i64 a, .int .i64 m', .int .i64 c]⟩) ∧ LeastS n par tv w a m' c))
      (fun v38 h39 => Kp bn h h39 ∧ Forest h39 bf bn n par tv ∧ ∃ a m' c, Res.pan v38 = Res.ret (.tuple ⟨[.int .i64 a, .int .i64 m', .int .i64 c]⟩) ∧ LeastS n par tv w a m' c)) := by
    intro ht hlow
    refine (splay_T f4 J3 P.fst P.small hu).mono ?_
    rintro _ g5 ⟨rfl, st5, L5, pd5, f5, kp5, R5⟩
    refine ⟨rfl, kp4.trans kp5, ⟨P.small, P.fst, _, _, _, _, f5, R5.inv⟩, u, m, 0, rfl, ?_⟩
    rw [← ht]
    have hall : ∀ x ∈ L1 c, m ≤ tv x := fun x hx => by rw [← hm]; exact mn_le hx
    refine LeastS.ok (A := Y.reverse ++ (LL L1 (st3 u 1)).reverse) (B := (LL L1 (st3 u 0)).reverse ++ X.reverse) (r := r) h0 ?_ ?_ ?_
    · rw [Int.toNat_natCast]
      have := R.upw
      rw [tl, hL, inU] at this
      simpa using this
    · intro x hx
      rw [ht]
      refine hall x ?_
      rw [hL, inU]
      simp only [List.mem_append, List.mem_reverse, List.mem_cons] at hx ⊢
      rcases hx with h | h
      · exact .inr h
      · exact .inl (.inr (.inr (.inr h)))
    · intro x hx
      rw [ht]
      simp only [List.mem_append, List.mem_reverse] at hx
      rcases hx with h | h
      · exact hlow x h
      · exact hX x h
  have right : tv u ≠ m → (∀ x ∈ LL L1 (st3 u 0), m < tv x) → (mn tv (LL L1 (st3 u 0)) ≠ m) → (∃ k, I15 (st3 u 1, ()) g4 k) ∧ rk I15 ((st3 u 1, ()), g4) (((u : Int), ()), g) := by
    intro ht hlow hne
    obtain ⟨y, hy⟩ : ∃ y : Nat, st3 u 1 = y := by
      rcases pt_of J3 hu (k := 1) (by decide) with h | ⟨y, h, _⟩
      · exfalso
        rw [LL_neg h] at mU
        simp only [mn] at mU
        omega
      · exact ⟨y, h⟩
    have hyc : Ch st3 u y := .inr hy
    have hyn := (J3.ch u y hu hyc).1
    rw [hy, LL_nat] at mU inU
    have hm1 : m < tv u ∧ m < mn tv (LL L1 (st3 u 0)) ∧ mn tv (L1 y) = m := by omega
    rw [hy]
    refine mu_next (I := I15) (k := (L1 y).length) ⟨st3, pd3, X ++ LL L1 (st3 u 0) ++ [u], Y, y, rfl, hyn, f4, kp4, J3, chz y hyc, ?_, ?_, hm1.2.2, rfl⟩ ?_
    · rw [hL, inU]; simp
    · intro x hx
      simp only [List.mem_append, List.mem_singleton] at hx
      rcases hx with (h | h) | h
      · exact hX x h
      · exact hlow x h
      · subst h; exact hm1.1
    · rw [hkk, hk]; exact J3.len hu hyc
  refine ⟨_, ld4 (by decide), ?_⟩
  refine ifP_of (fun hx => ?_) (fun hx => ?_)
  · have hx := of_decide_eq_true hx
    obtain ⟨y, hy⟩ : ∃ y : Nat, st3 u 0 = y := ⟨(st3 u 0).toNat, by omega⟩
    have hyc : Ch st3 u y := .inl hy
    have hyn := (J3.ch u y hu hyc).1
    refine ⟨_, f4.hd.ld, _, ld4 (by decide), ?_⟩
    rw [hy]
    refine nx hyn ⟨_, f4.ld hyn (by decide), ?_⟩
    rw [J3.lstZ P.fst hyn (chz y hyc)]
    refine ifP_of (fun he => ?_) (fun he => ?_)
    · have he := of_decide_eq_true he
      refine ⟨_, ld4 (by decide), ?_⟩
      rw [hy] at inU ⊢
      rw [LL_nat] at inU
      refine mu_next (I := I15) (k := (L1 y).length) ⟨st3, pd3, X, u :: LL L1 (st3 u 1) ++ Y, y, rfl, hyn, f4, kp4, J3, chz y hyc, ?_, hX, he, rfl⟩ ?_
      · rw [hL, inU]; simp
      · rw [hkk, hk]; exact J3.len hu hyc
    · have he := of_decide_eq_false he
      rw [hy] at stop right mU
      rw [LL_nat] at stop right mU
      have hlow : ∀ x ∈ L1 y, m < tv x := fun x hx => by
        have := mn_le (tv := tv) hx
        omega
      refine ⟨_, ld4 (by decide), ?_⟩
      rw [v3]
      refine ifP_of (fun ht => stop (of_decide_eq_true ht) hlow) (fun ht => ⟨_, ld4 (by decide), right (of_decide_eq_false ht) hlow he⟩)
  · have hx := of_decide_eq_false hx
    have e0 : LL L1 (st3 u 0) = [] := LL_neg (by omega)
    rw [e0] at stop right
    refine ⟨_, ld4 (by decide), ?_⟩
    rw [v3]
    refine ifP_of (fun ht => stop (of_decide_eq_true ht) (by simp)) (fun ht => ⟨_, ld4 (by decide), right (of_decide_eq_false ht) (by simp) (by simp only [mn]; omega)⟩)

end
end Go.Proofs.Ythglkcpoofenbaa

/-! New: a forest of single nodes. -/
namespace Go.Proofs.Ythglkcpoofenbaa
open Go
set_option linter.unusedVariables false

theorem Ext.kp {h h' : H} (x : Ext h h') (b : Nat) : Kp b h h' := fun k o _ e => x k o e
theorem Ext.trans' {a b c : H} (x : Ext a b) (y : Ext b c) : Ext a c := fun k o e => y k o (x k o e)
/-- What keeps all but a block that was not known keeps all. -/
theorem Ext.of_kp {h1 h2 h3 : H} {b : Nat} (x : Ext h1 h2) (k : Kp b h2 h3) (hb : h1 b = none) : Ext h1 h3 := fun j o e =>
  k j o (by rintro rfl; rw [hb] at e; cases e) (x j o e)

theorem ints_zrep (n : Nat) : zrep [.int .i64 0] n = ints n fun _ => 0 := by
  unfold zrep ints
  induction n with
  | zero => rfl
  | succ n ih => rw [List.replicate_succ', List.range_succ, List.flatten_append, ih, List.map_append]; rfl
theorem flat_rep {z : List Value} {k : Nat} (hz : z = ints k fun _ => 0) (n : Nat) : zrep z n = recs n k fun _ _ => 0 := by
  unfold recs
  rw [← ints_zrep, hz, ← ints_zrep]
  unfold zrep
  induction n with
  | zero => simp
  | succ n ih =>
    rw [List.replicate_succ', List.flatten_append, ih, Nat.add_mul, Nat.one_mul, ← List.replicate_append_replicate (n := n * k) (m := k), List.flatten_append]
    simp

/-- One record anew. -/
def updR (st : Nat → Nat → Int) (v : Nat) (r : Nat → Int) : Nat → Nat → Int := fun w j => if w = v then r j else st w j
theorem fp_setN {h0 : H} {b e n k : Nat} {st : Nat → Nat → Int} {v : Nat} {r : Nat → Int} (hv : v < n) :
    hset (fp h0 b e n k st) ((bk b).add (v * k)) (ints k r) = fp h0 b e n k (updR st v r) := by
  have hle : v * k + k ≤ n * k := by
    calc v * k + k = (v + 1) * k := by rw [Nat.add_mul]; omega
      _ ≤ n * k := Nat.mul_le_mul_right _ hv
  rw [bk_add]
  funext b'
  unfold hset
  by_cases hb : b' = b
  · subst hb
    rw [if_pos rfl, fp_at, fp_at]
    simp only [Option.map_some]
    rw [setR_list _ _ _ (by rw [ints_length, recs_length]; exact hle)]
    congr 3
    have hlen : (List.take (v * k) (recs n k st) ++ ints k r ++ List.drop (v * k + (ints k r).length) (recs n k st)).length = (recs n k (updR st v r)).length := by
      simp only [List.length_append, List.length_take, List.length_drop, ints_length, recs_length]
      omega
    refine List.ext_getElem? fun i => ?_
    by_cases hi : i < n * k
    · have e2 : (recs n k (updR st v r))[i]? = some (.int .i64 (updR st v r (i / k) (i % k))) := ints_get hi
      have e1 : (recs n k st)[i]? = some (.int .i64 (st (i / k) (i % k))) := ints_get hi
      have hk : 0 < k := by
        rcases Nat.eq_zero_or_pos k with h | h
        · subst h; omega
        · exact h
      rw [e2]
      rw [List.getElem?_append, List.getElem?_append]
      simp only [List.length_append, List.length_take, ints_length, recs_length]
      have hdm := Nat.div_add_mod i k
      have hmod := Nat.mod_lt i hk
      unfold updR
      by_cases h1 : i < v * k
      · have hq : i / k ≠ v := by
          intro hq
          rw [hq, Nat.mul_comm] at hdm
          omega
        rw [if_pos (by omega), if_pos (by omega), List.getElem?_take, if_pos h1, e1, if_neg hq]
      · by_cases h2 : i < v * k + k
        · have hq : i / k = v := by
            apply Nat.div_eq_of_lt_le
            · omega
            · rw [Nat.add_mul]; omega
          have hr : i % k = i - v * k := by rw [hq, Nat.mul_comm] at hdm; omega
          rw [if_pos (by omega), if_neg (by omega), if_pos hq]
          rw [show i - min (v * k) (n * k) = i - v * k by omega, ints_get (by omega), hr]
        · have hq : i / k ≠ v := by
            intro hq
            rw [hq, Nat.mul_comm] at hdm
            omega
          rw [if_neg (by omega), List.getElem?_drop, if_neg hq]
          rw [show v * k + k + (i - (min (v * k) (n * k) + k)) = i by omega, e1]
    · rw [List.getElem?_eq_none (by rw [hlen, recs_length]; omega), List.getElem?_eq_none (by rw [recs_length]; omega)]
  · rw [if_neg hb, fp_ne hb, fp_ne hb]

theorem fp_wrN {h0 : H} {b e n k : Nat} {st : Nat → Nat → Int} {v : Nat} (hv : v < n) : hwr (fp h0 b e n k st) ((bk b).add (v * k)) k := by
  rw [bk_add]
  refine ⟨_, _, fp_at .., rfl, ?_⟩
  have hle : v * k + k ≤ n * k := by
    calc v * k + k = (v + 1) * k := by rw [Nat.add_mul]; omega
      _ ≤ n * k := Nat.mul_le_mul_right _ hv
  simpa [recs_length] using hle
/-- A new block, seen from outside. -/
theorem new_put {h : H} {o : Obj} {K : Nat → H → Prop} (k : ∀ b g, h b = none → Ext h g → g b = some o → K b g) : newP h o K := fun b hb =>
  k b _ hb (Ext.put hb o) (by simp [hput])

def newSt (i : Nat) : St := fun w j => if w < i ∧ j < 3 then -1 else 0
theorem newSt_inv (n : Nat) : Inv n (newSt n) (fun v => [v]) (fun _ => -1) (fun _ => 0) (fun _ => 0) := by
  have lo : ∀ v j, v < n → j < 3 → newSt n v j = -1 := fun v j hv hj => if_pos ⟨hv, hj⟩
  have hi : ∀ v j, 3 ≤ j → newSt n v j = 0 := fun v j hj => if_neg (by omega)
  have nc : ∀ u y : Nat, u < n → ¬ Ch (newSt n) u y := by
    intro u y hu h
    rcases h with h | h <;> rw [lo _ _ hu (by decide)] at h <;> omega
  refine ⟨?_, ?_, ?_, ?_, ?_, ?_, ?_, ?_, ?_⟩
  · intro u y hu h; exact absurd h (nc u y hu)
  · intro v hv; rw [lo _ _ hv (by decide)]; exact .inl (by omega)
  · intro v hv
    rw [lo _ _ hv (by decide), lo _ _ hv (by decide), LL_neg (by omega)]; rfl
  · intro v hv; trivial
  · intro v hv _
    exact ⟨v, [], rfl, by rw [lo _ _ hv (by decide)]⟩
  · intro v hv _; rfl
  · intro u y hu h; exact absurd h (nc u y hu)
  · intro v hv; rw [hi _ _ (by decide)]; rfl
  · intro v hv; rw [hi _ _ (by decide)]; rfl
theorem newSt_fst (n : Nat) : Fst n (fun _ => -1) (fun _ => 0) :=
  ⟨fun _ _ => .inl rfl, ⟨fun _ => 0, fun v u _ h => by omega⟩, fun _ _ => by omega, fun _ _ _ => rfl⟩

theorem New_T (h : H) (n : Int) :
    T Try.prog F.links_New [.int .i64 n] h fun r h' => Ext h h' ∧
      (((n < 0 ∨ 1024 < n) ∧ r = .ret (.tuple ⟨[.pointer none, .int .i64 3]⟩)) ∨
       (0 ≤ n ∧ n ≤ 1024 ∧ ∃ bf bn, r = .ret (.tuple ⟨[fo bf, .int .i64 0]⟩) ∧ h bf = none ∧ h bn = none ∧ Forest h' bf bn n.toNat (fun _ => -1) (fun _ => 0))) := by
  refine E_links_New ?_
  unfold B_links_New
  refine ifP_of (fun h1 => ?_) (fun h1 => ?_)
  · exact ⟨Ext.refl _, .inl ⟨.inl (of_decide_eq_true h1), rfl⟩⟩
  have h1 := of_decide_eq_false h1
  refine ifP_of (fun h2 => ?_) (fun h2 => ?_)
  · exact ⟨Ext.refl _, .inl ⟨.inr (of_decide_eq_true h2), rfl⟩⟩
  have h2 := of_decide_eq_false h2
  obtain ⟨m, rfl⟩ : ∃ m : Nat, n = m := ⟨n.toNat, by omega⟩
  refine ⟨by omega, Int.le_refl _, by omega, by omega, ?_⟩
  refine new_put ?_
  intro b1 g1 hb1 x1 e1
  refine new_put ?_
  intro b3 g2 hb3 x2 e2
  rw [Int.toNat_natCast] at e1 e2 ⊢
  have fr : zrep [.int .i64 0, .int .i64 0, .int .i64 0, .int .i64 0, .int .i64 0, .int .i64 0] m = recs m 6 (fun _ _ => 0) := flat_rep (k := 6) rfl m
  rw [fr] at e1
  have ne : b3 ≠ b1 := by
    rintro rfl
    rw [e1] at hb3; cases hb3
  have hb3' : h b3 = none := by
    cases e : h b3 with
    | none => rfl
    | some o => rw [x1 _ _ e] at hb3; cases hb3
  have x4 : Ext h g2 := x1.trans' x2
  have z0 : newSt 0 = fun _ _ => 0 := by funext w j; exact if_neg (by omega)
  obtain ⟨ty, f4⟩ : ∃ ty, Fz g2 b3 b1 ty m (newSt 0) := ⟨_, ⟨ne, _, e2⟩, by rw [z0]; exact x2 _ _ e1⟩
  refine ⟨_, f4.hd.ld, ?_⟩
  let I9 : (Int × Unit) → H → Nat → Prop := fun s g k => ∃ i : Nat, s.1 = i ∧ i ≤ m ∧ k = m - i ∧ Ext h g ∧ Fz g b3 b1 ty m (newSt i)
  refine ⟨fun s g => ∃ k, I9 s g k, rk I9, rk_wf I9, ⟨_, 0, rfl, Nat.zero_le _, rfl, x4, f4⟩, ?_⟩
  intro s g hI
  obtain ⟨i, hi, him, hk, xg, fz⟩ := mu_spec hI
  generalize hkk : mu I9 ((s, ()), g) = k at *
  change s = (i : Int) at hi
  subst hi
  refine ifP_of (fun h0 => ?_) (fun h0 => ?_)
  · have h0 := of_decide_eq_true h0
    have him : i < m := by omega
    refine ⟨_, fz.hd.ld, nx him ⟨rfl, by simp [Value.oneCell'], ?_, ?_⟩⟩
    · have := fp_wrN (h0 := g) (b := b1) (e := ty) (k := 6) (st := newSt i) him
      rwa [fp_self fz.at_] at this
    · have := fp_setN (h0 := g) (b := b1) (e := ty) (k := 6) (st := newSt i) (r := fun j => if j < 3 then -1 else 0) him
      rw [fp_self fz.at_] at this
      have e6 : ints 6 (fun j => if j < 3 then -1 else 0) = [.int .i64 (-1), .int .i64 (-1), .int .i64 (-1), .int .i64 0, .int .i64 0, .int .i64 0] := rfl
      rw [e6] at this
      rw [this]
      have e7 : updR (newSt i) i (fun j => if j < 3 then -1 else 0) = newSt (i + 1) := by
        funext w j
        unfold updR newSt
        by_cases hw : w = i
        · subst hw
          show (if w = w then (if j < 3 then (-1 : Int) else 0) else _) = _
          by_cases hj : j < 3
          · rw [if_pos rfl, if_pos hj, if_pos ⟨by omega, hj⟩]
          · rw [if_pos rfl, if_neg hj, if_neg (fun h => hj h.2)]
        · rw [if_neg hw]
          congr 1
          exact propext ⟨fun ⟨a, b⟩ => ⟨by omega, b⟩, fun ⟨a, b⟩ => ⟨by omega, b⟩⟩
      rw [e7]
      have wi : IntKind.i64.wrap ((i : Int) + 1) = ((i + 1 : Nat) : Int) := by
        have : IntKind.i64.wrap ((i : Int) + 1) = (i : Int) + 1 := w64_in (by omega) (by omega)
        rw [this]; omega
      rw [wi]
      refine mu_next (I := I9) (k := m - (i + 1)) ⟨i + 1, rfl, him, rfl, xg.of_kp (Kp.fp (bn := b1)) hb1, fz.next⟩ (by rw [hkk, hk]; omega)
  · have h0 := of_decide_eq_false h0
    have : i = m := by omega
    subst this
    exact ⟨xg, .inr ⟨by omega, by omega, b3, b1, rfl, hb3', hb1, ⟨by omega, newSt_fst i, _, _, _, _, fz, newSt_inv i⟩⟩⟩

end Go.Proofs.Ythglkcpoofenbaa

/-! Variables, slices and arrays in the heap: what all seats share. -/
namespace Go.Proofs.Ythglkcpoofenbaa
open Go
set_option linter.unusedVariables false

theorem ptrO_mk {a : Option Addr} {K : Option Addr → Prop} (k : K a) : ptrO (.pointer a) K := k
theorem rt_ret {A X : Value → H → Prop} {v : Value} {h : H} (k : A v h) : rt A X (.ret v) h := k
theorem i64_inc {i : Nat} (h : i < 9223372036854775807) : IntKind.i64.wrap ((i : Int) + 1) = ((i + 1 : Nat) : Int) := by
  have : IntKind.i64.wrap ((i : Int) + 1) = (i : Int) + 1 := w64_in (by omega) (by omega)
  rw [this]; omega
def va (n : Nat) (f : Nat → Value) : List Value := (List.range n).map f
theorem va_length (n : Nat) (f : Nat → Value) : (va n f).length = n := by simp [va]
theorem va_get {n : Nat} {f : Nat → Value} {i : Nat} (h : i < n) : (va n f)[i]? = some (f i) := by
  simp [va, List.getElem?_map, List.getElem?_range h]
def updV (f : Nat → Value) (i : Nat) (x : Value) : Nat → Value := fun j => if j = i then x else f j
theorem va_set {n : Nat} {f : Nat → Value} {i : Nat} {x : Value} : (va n f).set i x = va n (updV f i x) := by
  apply List.ext_getElem
  · simp [va]
  · intro j h1 h2
    simp only [va, List.getElem_set, List.getElem_map, List.getElem_range, updV]
    by_cases e : i = j
    · subst e; simp
    · rw [if_neg e, if_neg (fun h => e h.symm)]
def VA (h : H) (b e n : Nat) (f : Nat → Value) : Prop := h b = some (.cells ⟨va n f⟩ e (0, 0))
theorem VA.ld {h : H} {b e n : Nat} {f : Nat → Value} (a : VA h b e n f) {i : Nat} (hi : i < n) : hcell h ((bk b).add (i * 1)) = some (f i) := by
  rw [bk_add, hcell_at a, Nat.mul_one, List.getElem?_toArray]
  exact va_get hi
theorem VA.wr {h : H} {b e n : Nat} {f : Nat → Value} (a : VA h b e n f) {i : Nat} (hi : i < n) : hwr h ((bk b).add (i * 1)) 1 := by
  rw [bk_add]
  refine ⟨_, _, a, rfl, ?_⟩
  simp only [List.size_toArray, va_length]
  omega
theorem VA.set {h : H} {b e n : Nat} {f : Nat → Value} (a : VA h b e n f) {i : Nat} {x : Value} (hi : i < n) :
    VA (hset h ((bk b).add (i * 1)) [x]) b e n (updV f i x) ∧ Kp b h (hset h ((bk b).add (i * 1)) [x]) := by
  rw [bk_add]
  constructor
  · unfold VA hset
    rw [if_pos rfl, a]
    simp only [Option.map_some, setR, Nat.mul_one]
    rw [List.setIfInBounds_toArray, va_set]
  · intro k o hk hh
    unfold hset
    rw [if_neg hk]
    exact hh
theorem VA.kp {h h' : H} {b b' e n : Nat} {f : Nat → Value} (a : VA h b e n f) (k : Kp b' h h') (ne : b ≠ b') : VA h' b e n f := k _ _ ne a
/-- The block b holds vs. -/
def Bl (h : H) (b : Nat) (vs : List Value) : Prop := ∃ e, h b = some (.cells ⟨vs⟩ e (0, 0))
theorem Bl.ext {h h' : H} {b : Nat} {vs : List Value} (B : Bl h b vs) (x : Ext h h') : Bl h' b vs := by
  obtain ⟨e, k⟩ := B; exact ⟨e, x _ _ k⟩
theorem Bl.kp {h h' : H} {b c : Nat} {vs : List Value} (B : Bl h b vs) (x : Kp c h h') (ne : b ≠ c) : Bl h' b vs := by
  obtain ⟨e, k⟩ := B; exact ⟨e, x _ _ ne k⟩
theorem Bl.ne {h : H} {b c : Nat} {vs : List Value} (B : Bl h b vs) (hc : h c = none) : b ≠ c := by
  rintro rfl; obtain ⟨e, k⟩ := B; rw [hc] at k; cases k
theorem new_bl {h : H} {vs : List Value} {e : Nat} {K : Nat → H → Prop} (k : ∀ b g, h b = none → Ext h g → Bl g b vs → K b g) :
    newP h (.cells ⟨vs⟩ e (0, 0)) K := fun b hb => k b _ hb (Ext.put hb _) ⟨e, by simp [hput]⟩
theorem Bl.ld {h : H} {b i : Nat} {vs : List Value} {v : Value} (B : Bl h b vs) (hi : vs[i]? = some v) : hcell h ((bk b).add i) = some v := by
  obtain ⟨e, k⟩ := B
  rw [bk_add, hcell_at k, List.getElem?_toArray]
  exact hi
theorem Bl.ldN {h : H} {b n : Nat} {vs : List Value} {K : List Value → Prop} (B : Bl h b vs) (hn : vs.length = n) (k : K vs) : ldN h (bk b) n K :=
  ⟨vs, hn, fun _ _ hi => B.ld hi, k⟩
theorem Bl.stN {h : H} {b n : Nat} {vs ws : List Value} {K : H → Prop} (B : Bl h b vs) (hn : ws.length = n) (hv : vs.length = n) (one : ∀ v ∈ ws, v.oneCell' = true)
    (k : ∀ g, Kp b h g → Bl g b ws → K g) : stN h (bk b) ws n K := by
  obtain ⟨e, hb⟩ := B
  refine ⟨hn, one, ⟨_, _, hb, rfl, by simp; omega⟩, k _ ?_ ⟨e, ?_⟩⟩
  · intro j o hj hh
    unfold hset
    rw [if_neg hj]; exact hh
  · unfold hset
    rw [if_pos rfl, hb]
    simp only [Option.map_some]
    rw [setR_list ws vs 0 (by omega)]
    simp [hn, hv]
theorem new_bl_st {h : H} {zs ws : List Value} {e n : Nat} {K : Nat → H → Prop} (hn : ws.length = n) (hz : zs.length = n) (one : ∀ v ∈ ws, v.oneCell' = true)
    (k : ∀ b g, h b = none → Ext h g → Bl g b ws → K b g) : newP h (.cells ⟨zs⟩ e (0, 0)) fun b h1 => stN h1 (bk b) ws n (K b) := by
  refine new_st hn hz one ?_
  intro b g hb kp e2 _
  exact k b g hb (fun j o hj => kp (j + 1) j o (by omega) hj) ⟨e, e2⟩
theorem add_block (a : Addr) (i : Nat) : (a.add i).block = a.block := by unfold Addr.add; split <;> rfl
theorem sameAt_of {h h' : H} {a : Addr} {n : Nat} (e : h' a.block = h a.block) : sameAt n a h h' := by
  intro i _
  unfold hcell
  rw [add_block, e]
/-- v is a slice of n whole numbers, in a block that is ok. -/
def SI (ok : Nat → Prop) (h : H) (v : Value) (n : Nat) (f : Nat → Int) : Prop :=
  (n = 0 ∧ v = .slice none 0 0) ∨ ∃ b, ok b ∧ Sl h b v (ints n f)
theorem SI.ext {ok : Nat → Prop} {h h' : H} {v : Value} {n : Nat} {f : Nat → Int} (s : SI ok h v n f) (x : Ext h h') : SI ok h' v n f := by
  rcases s with s | ⟨b, hb, c, e, zs, h1, h2, h3⟩
  · exact .inl s
  · exact .inr ⟨b, hb, c, e, zs, h1, x _ _ h2, h3⟩
theorem SI.kp {h h' : H} {c : Nat} {v : Value} {n : Nat} {f : Nat → Int} (s : SI (· ≠ c) h v n f) (k : Kp c h h') : SI (· ≠ c) h' v n f := by
  rcases s with s | ⟨b, hb, s⟩
  · exact .inl s
  · exact .inr ⟨b, hb, s.kp k hb⟩
theorem SI.shape {ok : Nat → Prop} {h : H} {v : Value} {n : Nat} {f : Nat → Int} (s : SI ok h v n f) : ∃ a c, v = .slice a n c := by
  rcases s with ⟨rfl, rfl⟩ | ⟨b, hb, c, e, zs, h1, h2, h3⟩
  · exact ⟨_, _, rfl⟩
  · rw [ints_length] at h1; exact ⟨_, _, h1⟩
theorem SI.ix {ok : Nat → Prop} {h : H} {v : Value} {n i : Nat} {f : Nat → Int} {K : Addr → Prop} (s : SI ok h v n f) (hi : i < n)
    (k : ∀ a : Addr, hcell h a = some (.int .i64 (f i)) → K a) : ixS v (i : Int) 1 K := by
  rcases s with ⟨rfl, rfl⟩ | ⟨b, hb, s⟩
  · omega
  · have g := s.get (ints_get hi)
    obtain ⟨c, e, zs, h1, h2, h3⟩ := s
    subst h1
    rw [ints_length]
    exact nx hi (k _ g)
theorem slcP_mk {a : Option Addr} {l c : Nat} {K : Option Addr → Nat → Nat → Prop} (k : K a l c) : slcP (.slice a l c) K := k
/-- A slice of n whole numbers in a block of its own, new to h. -/
def SN (h g : H) (v : Value) (n : Nat) (f : Nat → Int) (b : Nat) : Prop := (n = 0 ∧ v = .slice none 0 0) ∨ (h b = none ∧ Sl g b v (ints n f))
theorem SI.src {ok : Nat → Prop} {h : H} {v : Value} {n : Nat} {f : Nat → Int} (s : SI ok h v n f) : ∃ a c, v = .slice a n c ∧ srcP h a (n * 1) (ints n f) := by
  rcases s with ⟨rfl, rfl⟩ | ⟨b, hb, s⟩
  · exact ⟨none, 0, rfl, rfl, rfl⟩
  · have g := fun i v (hi : (ints n f)[i]? = some v) => s.get hi
    obtain ⟨c, e, zs, h1, h2, h3⟩ := s
    rw [ints_length] at h1
    refine ⟨_, c, h1, by rw [ints_length, Nat.mul_one], ?_⟩
    intro i v hi
    have := g i v hi
    rwa [Nat.mul_one] at this
/-- Behind append(nil, v...). -/
theorem ap_copy {ok : Nat → Prop} {h : H} {v z : Value} {n e bytes : Nat} {f : Nat → Int} {K : Value → H → Prop} (s : SI ok h v n f) (hn : n ≤ 1024) (hb : bytes ≤ 8)
    (k : ∀ p b g, Ext h g → SN h g p n f b → K p g) : apP (.slice none 0 0) v h 1 e bytes [z] K := by
  obtain ⟨a, c, rfl, hs⟩ := s.src
  refine ⟨_, hs, fun hle => ?_, fun hlt => ⟨?_, [], ⟨rfl, rfl⟩, fun cap hcap => ?_⟩⟩
  · have hn0 : n = 0 := by omega
    subst hn0
    exact ⟨rfl, k _ 0 h (Ext.refl h) (.inl ⟨rfl, rfl⟩)⟩
  · have := nextcap_le hlt
    calc _ ≤ (2 * (0 + n) + 192) * bytes := Nat.mul_le_mul_right _ this
      _ ≤ (2 * (0 + n) + 192) * 8 := Nat.mul_le_mul_left _ hb
      _ ≤ _ := by omega
  · refine new_put ?_
    intro b g hbn x e1
    rw [Nat.zero_add] at e1 hcap ⊢
    refine k _ b g x (.inr ⟨hbn, cap, e, zrep [z] (cap - n), by rw [ints_length], by rw [e1]; rfl, ?_⟩)
    have : ∀ m, (zrep [z] m).length = m := by intro m; simp [zrep]
    rw [this, ints_length]; omega
theorem Bl.stC {h : H} {b i : Nat} {vs : List Value} {x : Value} {K : H → Prop} (B : Bl h b vs) (hi : i < vs.length)
    (k : ∀ g, Kp b h g → Bl g b (vs.set i x) → K g) : stC h ((bk b).add i) x K := by
  obtain ⟨e, hb⟩ := B
  rw [bk_add]
  refine ⟨⟨_, _, hb, rfl, by simp; omega⟩, k _ ?_ ⟨e, ?_⟩⟩
  · intro j o hj hh
    unfold hset
    rw [if_neg hj]; exact hh
  · unfold hset
    rw [if_pos rfl, hb]
    simp only [Option.map_some, setR]
    rw [List.setIfInBounds_toArray]
theorem SN.ext {h g g' : H} {v : Value} {n : Nat} {f : Nat → Int} {b : Nat} (s : SN h g v n f b) (x : Ext g g') : SN h g' v n f b := by
  rcases s with s | ⟨hb, c, e, zs, h1, h2, h3⟩
  · exact .inl s
  · exact .inr ⟨hb, c, e, zs, h1, x _ _ h2, h3⟩
theorem SN.kp {h g g' : H} {v : Value} {n : Nat} {f : Nat → Int} {b c : Nat} (s : SN h g v n f b) (k : Kp c g g') (hc : h c ≠ none) : SN h g' v n f b := by
  rcases s with s | ⟨hb, s⟩
  · exact .inl s
  · exact .inr ⟨hb, s.kp k (by rintro rfl; exact hc hb)⟩
theorem SN.weak {h0 h g : H} {v : Value} {n : Nat} {f : Nat → Int} {b : Nat} (s : SN h g v n f b) (x : Ext h0 h) : SN h0 g v n f b := by
  rcases s with s | ⟨hb, s⟩
  · exact .inl s
  · refine .inr ⟨?_, s⟩
    cases e : h0 b with
    | none => rfl
    | some o => rw [x _ _ e] at hb; cases hb
theorem SN.isS {h g : H} {v : Value} {n : Nat} {f : Nat → Int} {b : Nat} (s : SN h g v n f b) : ∃ a l c, v = .slice a l c := by
  rcases s with ⟨_, rfl⟩ | ⟨_, c, e, zs, h1, _, _⟩
  · exact ⟨_, _, _, rfl⟩
  · subst h1; exact ⟨_, _, _, rfl⟩
theorem oneP_slc {v : Value} {K : Prop} (h : ∃ a l c, v = .slice a l c) (k : K) : oneP v K := by
  obtain ⟨_, _, _, rfl⟩ := h
  exact k
theorem slc_one {v : Value} (h : ∃ a l c, v = .slice a l c) : v.oneCell' = true := by
  obtain ⟨_, _, _, rfl⟩ := h
  rfl
theorem Sl.setI {h : H} {b : Nat} {v : Value} {n i : Nat} {f : Nat → Int} {x : Int} {K : H → Prop} (s : Sl h b v (ints n f)) (hi : i < n)
    (k : ∀ g, Kp b h g → Sl g b v (ints n (upd f i x)) → K g) : ixS v (i : Int) 1 fun a => stC h a (.int .i64 x) K := by
  obtain ⟨c, e, zs, h1, h2, h3⟩ := s
  subst h1
  rw [ints_length] at h3 ⊢
  refine nx hi ?_
  rw [bk_add]
  refine ⟨⟨_, _, h2, rfl, ?_⟩, k _ ?_ ⟨c, e, zs, by rw [ints_length, ints_length], ?_, by rw [ints_length]; exact h3⟩⟩
  · simp only [List.size_toArray, List.length_append, ints_length]; omega
  · intro j o hj hh
    unfold hset
    rw [if_neg hj]; exact hh
  · unfold hset
    rw [if_pos rfl, h2]
    simp only [Option.map_some, setR, Nat.mul_one]
    rw [List.setIfInBounds_toArray, List.set_append_left _ _ (by rw [ints_length]; exact hi), ints_set]
theorem Ext.new {h g : H} {b : Nat} (x : Ext h g) (hb : g b = none) : h b = none := by
  cases e : h b with
  | none => rfl
  | some o => rw [x _ _ e] at hb; cases hb
theorem SN.si {ok : Nat → Prop} {h g : H} {v : Value} {n : Nat} {f : Nat → Int} {b : Nat} (s : SN h g v n f b) (hok : ∀ b, h b = none → ok b) : SI ok g v n f := by
  rcases s with s | ⟨hb, s⟩
  · exact .inl s
  · exact .inr ⟨b, hok b hb, s⟩
theorem SN.sl {h g : H} {v : Value} {n : Nat} {f : Nat → Int} {b : Nat} (s : SN h g v n f b) (hn : 0 < n) : h b = none ∧ Sl g b v (ints n f) := by
  rcases s with ⟨s, _⟩ | s
  · omega
  · exact s
theorem sameAt_ext {h g g' : H} {a : Addr} {n : Nat} {v : Value} (x : Ext h g) (x' : Ext h g') (hc : hcell h a = some v) : sameAt n a g g' := by
  refine sameAt_of ?_
  unfold hcell at hc
  split at hc
  · rename_i c e f hb
    rw [x _ _ hb, x' _ _ hb]
  · cases hc
theorem sameAt_bl {g g' : H} {b i n : Nat} {vs : List Value} (B : Bl g b vs) (B' : Bl g' b vs) : sameAt n ((bk b).add i) g g' := by
  obtain ⟨e, h1⟩ := B
  obtain ⟨e', h2⟩ := B'
  intro j _
  rw [bk_add, bk_add2, hcell_at h1, hcell_at h2]
theorem Sl.bump {h : H} {b : Nat} {v : Value} {n i : Nat} {f : Nat → Int} {x : Int} {K : H → Prop} (s : Sl h b v (ints n f)) (hi : i < n)
    (k : ∀ g, Kp b h g → Sl g b v (ints n (upd f i (IntKind.i64.wrap (f i + x)))) → K g) :
    ixS v (i : Int) 1 fun a => ldI h a .i64 fun y => ixS v (i : Int) 1 fun a2 => stC h a2 (.int .i64 (IntKind.i64.wrap (y + x))) K := by
  have g := s.get (ints_get hi)
  have s2 := s.setI hi k
  obtain ⟨c, e, zs, h1, h2, h3⟩ := s
  subst h1
  rw [ints_length] at s2 ⊢
  exact nx hi ⟨_, g, s2⟩
theorem SI.kp' {ok : Nat → Prop} {h h' : H} {c : Nat} {v : Value} {n : Nat} {f : Nat → Int} (s : SI ok h v n f) (k : Kp c h h') (ne : ∀ b, ok b → b ≠ c) : SI ok h' v n f := by
  rcases s with s | ⟨b, hb, s⟩
  · exact .inl s
  · exact .inr ⟨b, hb, s.kp k (ne b hb)⟩
theorem SI.avoid {ok : Nat → Prop} {h : H} {c : Nat} {v : Value} {n : Nat} {f : Nat → Int} (s : SI ok h v n f) (hc : h c = none) : SI (fun b => ok b ∧ b ≠ c) h v n f := by
  rcases s with s | ⟨b, hb, s⟩
  · exact .inl s
  · refine .inr ⟨b, ⟨hb, ?_⟩, s⟩
    rintro rfl
    obtain ⟨_, _, _, _, h2, _⟩ := s
    rw [hc] at h2; cases h2

end Go.Proofs.Ythglkcpoofenbaa

