import Derived.Test.YtgbmkfifjijoiaaL1
import Derived.Test.YtgbmkfifjijoiaaK1
/-! The forest's small functions, each by what it does to the array of nodes. -/
namespace Go.Proofs.Ytgbmkfifjijoiaa
open Go
set_option linter.unusedVariables false

abbrev St := Nat → Nat → Int
abbrev w64 (x : Int) : Int := IntKind.i64.wrap x

/-- At bf lies the head of the slice of n nodes at bn. -/
def Hd (h : H) (bf bn n : Nat) : Prop := bf ≠ bn ∧ ∃ ef, h bf = some (.cells ⟨[.slice (some (bk bn)) n n]⟩ ef (0, 0))
abbrev fo (bf : Nat) : Value := .pointer (some (bk bf))
abbrev vi (v : Nat) : Value := .int .i64 (v : Int)
abbrev unit0 : Value := .tuple ⟨[]⟩

theorem Hd.fp {h0 : H} {bf bn n e k : Nat} {st : St} (hd : Hd h0 bf bn n) : Hd (fp h0 bn e n k st) bf bn n := by
  obtain ⟨ne, ef, h⟩ := hd
  exact ⟨ne, ef, by rw [fp_ne ne]; exact h⟩
theorem Hd.ld {h : H} {bf bn n : Nat} (hd : Hd h bf bn n) : hcell h ((bk bf).add 0) = some (.slice (some (bk bn)) n n) := by
  obtain ⟨ne, ef, h⟩ := hd
  rw [bk_add, hcell_at h]
  rfl
theorem nx {bn n v sz c : Nat} {K : Addr → Prop} (hv : v < n) (k : K ((bk bn).add (v * sz))) : ixS (.slice (some (bk bn)) n c) (v : Int) sz K :=
  ⟨Int.natCast_nonneg _, by omega, by rw [Int.toNat_natCast]; exact k⟩
theorem nd {h : H} {bf bn n v sz : Nat} {K : Addr → Prop} (hd : Hd h bf bn n) (hv : v < n) (k : K ((bk bn).add (v * sz))) :
    ptrP (fo bf) fun a => ldV h (a.add 0) fun x => ixS x (v : Int) sz K :=
  ⟨_, hd.ld, nx hv k⟩
/-- A pointer to a node, or less than 0. -/
def Pt (n : Nat) (c : Int) : Prop := c < 0 ∨ ∃ w : Nat, c = w ∧ w < n

def raiseS (st : St) (c d : Int) : St := if 0 ≤ c then fun w j => if w = c.toNat ∧ (j = 3 ∨ j = 4 ∨ j = 5) then w64 (st w j + d) else st w j else st
def pushS (st : St) (v : Nat) : St :=
  let s1 := raiseS st (st v 0) (st v 5)
  let s2 := raiseS s1 (s1 v 1) (s1 v 5)
  upd2 s2 v 5 0

section
variable {bf bn n e : Nat} {h0 : H} {st : St}

theorem node_T {h : H} (hd : Hd h bf bn n) (v : Int) :
    T Try.prog F.links_Forest_node [fo bf, .int .i64 v] h fun r h' => r = .ret (.bool (decide (0 ≤ v ∧ v < (n : Int)))) ∧ h = h' := by
  refine E_links_Forest_node ?_
  unfold B_links_Forest_node
  by_cases hv : 0 ≤ v
  · rw [decide_eq_true hv]
    refine ⟨_, hd.ld, ?_⟩
    refine ⟨?_, rfl⟩
    simp [hv]
  · rw [decide_eq_false hv]
    refine ⟨?_, rfl⟩
    simp [hv]

theorem label_T {h : H} (x : Int) :
    T Try.prog F.links_label [.int .i64 x] h fun r h' => r = .ret (.bool (decide (-1048576 ≤ x ∧ x ≤ 1048576))) ∧ h = h' := by
  refine E_links_label ?_
  unfold B_links_label
  by_cases hv : (-1048576) ≤ x
  · rw [decide_eq_true hv]
    exact ⟨by simp [hv], rfl⟩
  · rw [decide_eq_false hv]
    exact ⟨by simp [hv], rfl⟩

theorem raise_T (hd : Hd h0 bf bn n) {c : Int} (hc : Pt n c) (x : Int) :
    T Try.prog F.links_Forest_raise [fo bf, .int .i64 c, .int .i64 x] (fp h0 bn e n 6 st) fun r h => r = .ret unit0 ∧ h = fp h0 bn e n 6 (raiseS st c x) := by
  refine E_links_Forest_raise ?_
  unfold B_links_Forest_raise
  rcases hc with hc | ⟨v, rfl, hv⟩
  · rw [decide_eq_false (by omega)]
    exact ⟨rfl, by unfold raiseS; rw [if_neg (by omega)]⟩
  · rw [decide_eq_true (Int.natCast_nonneg v)]
    refine nd hd.fp hv ?_
    refine ⟨_, fp_ld hv (by decide), fp_wr hv (by decide), ?_⟩
    rw [fp_set hv (by decide)]
    refine ⟨_, fp_ld hv (by decide), fp_wr hv (by decide), ?_⟩
    rw [fp_set hv (by decide)]
    refine ⟨_, fp_ld hv (by decide), fp_wr hv (by decide), ?_⟩
    rw [fp_set hv (by decide)]
    refine ⟨rfl, ?_⟩
    congr 1
    unfold raiseS
    rw [if_pos (Int.natCast_nonneg v), Int.toNat_natCast]
    funext w j
    unfold upd2
    by_cases e1 : w = v
    · subst e1
      by_cases e2 : j = 3
      · subst e2; simp [w64]
      · by_cases e3 : j = 4
        · subst e3; simp [w64]
        · by_cases e4 : j = 5
          · subst e4; simp [w64]
          · simp [e2, e3, e4]
    · simp [e1]

theorem raiseS_link {st : St} {c x : Int} {w j : Nat} (hj : j < 3) : raiseS st c x w j = st w j := by
  unfold raiseS
  split
  · show (if w = c.toNat ∧ (j = 3 ∨ j = 4 ∨ j = 5) then _ else _) = _
    rw [if_neg]; omega
  · rfl

theorem push_T (hd : Hd h0 bf bn n) {v : Nat} (hv : v < n) (hl : Pt n (st v 0)) (hr : Pt n (st v 1)) :
    T Try.prog F.links_Forest_push [fo bf, vi v] (fp h0 bn e n 6 st) fun r h => r = .ret unit0 ∧ h = fp h0 bn e n 6 (pushS st v) := by
  refine E_links_Forest_push ?_
  unfold B_links_Forest_push
  refine nd hd.fp hv ?_
  refine ⟨_, fp_ld hv (by decide), _, fp_ld hv (by decide), ?_⟩
  refine (raise_T hd hl _).mono ?_
  rintro _ _ ⟨rfl, rfl⟩
  refine ⟨rfl, ?_⟩
  refine ⟨_, fp_ld hv (by decide), _, fp_ld hv (by decide), ?_⟩
  refine (raise_T hd (by rw [raiseS_link (by decide)]; exact hr) _).mono ?_
  rintro _ _ ⟨rfl, rfl⟩
  refine ⟨rfl, fp_wr hv (by decide), ?_⟩
  rw [fp_set hv (by decide)]
  exact ⟨rfl, rfl⟩

def topS (st : St) (v : Nat) : Bool := decide (st v 2 < 0) || (decide (st (st v 2).toNat 0 ≠ v) && decide (st (st v 2).toNat 1 ≠ v))

theorem top_T (hd : Hd h0 bf bn n) {v : Nat} (hv : v < n) (hu : Pt n (st v 2)) :
    T Try.prog F.links_Forest_top [fo bf, vi v] (fp h0 bn e n 6 st) fun r h => r = .ret (.bool (topS st v)) ∧ h = fp h0 bn e n 6 st := by
  refine E_links_Forest_top ?_
  unfold B_links_Forest_top
  refine nd hd.fp hv ?_
  refine ⟨_, fp_ld hv (by decide), ?_⟩
  rcases hu with hc | ⟨u, hu, hun⟩
  · rw [decide_eq_true hc]
    refine ⟨?_, rfl⟩
    simp [topS, hc]
  · rw [hu, decide_eq_false (by omega)]
    refine nd hd.fp hun ?_
    refine ⟨_, fp_ld hun (by decide), ?_⟩
    dsimp only
    by_cases e : st u 0 = v
    · rw [decide_eq_true e]
      refine ⟨?_, rfl⟩
      have : ¬ (u : Int) < 0 := by omega
      simp [topS, hu, e, this]
    · rw [decide_eq_false e]
      refine nd hd.fp hun ?_
      refine ⟨_, fp_ld hun (by decide), ?_⟩
      refine ⟨?_, rfl⟩
      have : ¬ (u : Int) < 0 := by omega
      simp [topS, hu, e, this]

/-- The least of a node's value and of what its subtrees have. -/
def least3 (st : St) (v : Nat) : Int :=
  let a := st v 3
  let b := if 0 ≤ st v 0 then (if st (st v 0).toNat 4 < a then st (st v 0).toNat 4 else a) else a
  if 0 ≤ st v 1 then (if st (st v 1).toNat 4 < b then st (st v 1).toNat 4 else b) else b
def pullS (st : St) (v : Nat) : St := upd2 st v 4 (least3 st v)

/-- A child of v, or less than 0. -/
def Pc (n v : Nat) (c : Int) : Prop := c < 0 ∨ ∃ w : Nat, c = w ∧ w < n ∧ w ≠ v
theorem Pc.pt {n v : Nat} {c : Int} (h : Pc n v c) : Pt n c := h.imp id fun ⟨w, e, lt, _⟩ => ⟨w, e, lt⟩

def lstep (st : St) (c a : Int) : Int := if 0 ≤ c then (if st c.toNat 4 < a then st c.toNat 4 else a) else a
theorem least3_eq (st : St) (v : Nat) : least3 st v = lstep st (st v 1) (lstep st (st v 0) (st v 3)) := rfl

theorem pull_T (hd : Hd h0 bf bn n) {v : Nat} (hv : v < n) (hl : Pc n v (st v 0)) (hr : Pc n v (st v 1)) :
    T Try.prog F.links_Forest_pull [fo bf, vi v] (fp h0 bn e n 6 st) fun r h => r = .ret unit0 ∧ h = fp h0 bn e n 6 (pullS st v) := by
  refine E_links_Forest_pull ?_
  unfold B_links_Forest_pull
  refine nd hd.fp hv ?_
  refine ⟨_, fp_ld hv (by decide), fp_wr hv (by decide), ?_⟩
  rw [fp_set hv (by decide)]
  refine ⟨_, fp_ld hv (by decide), _, fp_ld hv (by decide), ?_⟩
  rw [show upd2 st v 4 (st v 3) v 0 = st v 0 by simp [upd2], show upd2 st v 4 (st v 3) v 1 = st v 1 by simp [upd2]]
  refine ⟨fun s h => (s.1 = 0 ∧ h = fp h0 bn e n 6 (upd2 st v 4 (st v 3))) ∨ (s.1 = 1 ∧ h = fp h0 bn e n 6 (upd2 st v 4 (lstep st (st v 0) (st v 3)))) ∨ (s.1 = 2 ∧ h = fp h0 bn e n 6 (pullS st v)),
    InvImage (· < ·) fun x => (2 - x.1.1).toNat, InvImage.wf _ Nat.lt_wfRel.wf, .inl ⟨rfl, rfl⟩, ?_⟩
  have key : ∀ c a, Pc n v c → ∀ K : H → Prop, K (fp h0 bn e n 6 (upd2 st v 4 (lstep st c a))) → ∀ K2 : Prop, (c < 0 → K2) →
      ifP (decide (0 ≤ c)) (ptrP (fo bf) fun a13 =>
        ldI (fp h0 bn e n 6 (upd2 st v 4 a)) (((bk bn).add (v * 6)).add 4) .i64 fun x14 =>
        ldV (fp h0 bn e n 6 (upd2 st v 4 a)) (a13.add 0) fun x15 =>
        ixS x15 c 6 fun a16 =>
        ldI (fp h0 bn e n 6 (upd2 st v 4 a)) (a16.add 4) .i64 fun x17 =>
        stC (fp h0 bn e n 6 (upd2 st v 4 a)) (((bk bn).add (v * 6)).add 4) (.int .i64 (if x17 < x14 then x17 else x14)) fun h18 => K h18) K2 := by
    intro c a hc K k K2 k2
    refine ifP_of (fun h => ?_) (fun h => k2 (by have := of_decide_eq_false h; omega))
    rcases hc with hc | ⟨w, rfl, hw, ne⟩
    · have := of_decide_eq_true h; omega
    · refine ⟨_, fp_ld hv (by decide), _, hd.fp.ld, ?_⟩
      refine nx hw ?_
      refine ⟨_, fp_ld hw (by decide), fp_wr hv (by decide), ?_⟩
      rw [fp_set hv (by decide)]
      have e2 : upd2 (upd2 st v 4 a) v 4 (if upd2 st v 4 a w 4 < upd2 st v 4 a v 4 then upd2 st v 4 a w 4 else upd2 st v 4 a v 4) = upd2 st v 4 (lstep st (w : Int) a) := by
        have e3 : upd2 st v 4 a w 4 = st w 4 := by unfold upd2; rw [if_neg (fun h => ne h.1)]
        have e4 : upd2 st v 4 a v 4 = a := by unfold upd2; rw [if_pos ⟨rfl, rfl⟩]
        rw [e3, e4]
        unfold lstep
        rw [if_pos (Int.natCast_nonneg w), Int.toNat_natCast]
        funext x j
        unfold upd2
        split <;> rfl
      rw [e2]
      exact k
  have nolow : ∀ c a, c < 0 → lstep st c a = a := by
    intro c a hc
    unfold lstep
    rw [if_neg (by omega)]
  rintro s h (⟨rfl, rfl⟩ | ⟨rfl, rfl⟩ | ⟨rfl, rfl⟩)
  · refine ⟨by decide, by decide, _, rfl, ?_⟩
    refine key _ _ hl _ ?_ _ ?_
    · exact ⟨.inr (.inl ⟨rfl, rfl⟩), by show (1 : Nat) < 2; decide⟩
    · intro hc
      exact ⟨.inr (.inl ⟨rfl, by rw [nolow _ _ hc]⟩), by show (1 : Nat) < 2; decide⟩
  · refine ⟨by decide, by decide, _, rfl, ?_⟩
    refine key _ _ hr _ ?_ _ ?_
    · exact ⟨.inr (.inr ⟨rfl, rfl⟩), by show (0 : Nat) < 1; decide⟩
    · intro hc
      exact ⟨.inr (.inr ⟨rfl, by unfold pullS; rw [least3_eq, nolow _ _ hc]⟩), by show (0 : Nat) < 1; decide⟩
  · exact ⟨rfl, rfl⟩

end
end Go.Proofs.Ytgbmkfifjijoiaa
