import Derived.Test.YtgbmkfifjijoiaaK13
/-! The forest's exported functions. -/
namespace Go.Proofs.Ytgbmkfifjijoiaa
open Go
set_option linter.unusedVariables false

/-- In h there is a forest of n nodes at bf (its nodes at bn), which means par and tv. -/
structure Forest (h : H) (bf bn n : Nat) (par tv : Nat → Int) : Prop where
  small : n ≤ 1024
  fst : Fst n par tv
  ex : ∃ e st L pd, Fz h bf bn e n st ∧ Inv n st L par tv pd

def isN (n : Nat) (v : Int) : Prop := 0 ≤ v ∧ v < (n : Int)
instance (n : Nat) (v : Int) : Decidable (isN n v) := inferInstanceAs (Decidable (_ ∧ _))
def isL (x : Int) : Prop := -1048576 ≤ x ∧ x ≤ 1048576
instance (x : Int) : Decidable (isL x) := inferInstanceAs (Decidable (_ ∧ _))
def childC (n : Nat) (par : Nat → Int) (v : Int) : Int := if isN n v then (if par v.toNat = -1 then 70 else 0) else 30

theorem isN_false {n : Nat} {v : Int} (h : (!decide (0 ≤ v ∧ v < (n : Int))) = true) : ¬ isN n v := fun k => by
  unfold isN at k
  rw [decide_eq_true k] at h
  cases h
theorem isL_false {x : Int} (h : (!decide (-1048576 ≤ x ∧ x ≤ 1048576)) = true) : ¬ isL x := fun k => by
  unfold isL at k
  rw [decide_eq_true k] at h
  cases h
theorem isN_true {n : Nat} {v : Int} (h : (!decide (0 ≤ v ∧ v < (n : Int))) = false) : isN n v := by unfold isN; simpa using h
theorem isL_true {x : Int} (h : (!decide (-1048576 ≤ x ∧ x ≤ 1048576)) = false) : isL x := by unfold isL; simpa using h
theorem isN.nat {n : Nat} {v : Int} (h : isN n v) : ∃ w : Nat, v = w ∧ w < n := ⟨v.toNat, by unfold isN at h; omega, by unfold isN at h; omega⟩
theorem isN_of {n w : Nat} (h : w < n) : isN n (w : Int) := by unfold isN; omega
theorem childC_nat {n w : Nat} {par : Nat → Int} (h : w < n) : childC n par (w : Int) = if par w = -1 then 70 else 0 := by
  unfold childC
  rw [if_pos (isN_of h), Int.toNat_natCast]

section
variable {bf bn n : Nat} {h : H} {par tv : Nat → Int}

theorem Forest.hd (P : Forest h bf bn n par tv) : Hd h bf bn n := by
  obtain ⟨e, st, L, pd, f, _⟩ := P.ex
  exact f.hd

theorem Root_T (P : Forest h bf bn n par tv) (v : Int) :
    T Try.prog F.links_Forest_Root [fo bf, .int .i64 v] h fun r h' => Kp bn h h' ∧ Forest h' bf bn n par tv ∧
      ((¬ isN n v ∧ r = .ret (.tuple ⟨[.int .i64 0, .int .i64 30]⟩)) ∨ ∃ w x : Nat, v = w ∧ w < n ∧ Rt par w x ∧ x < n ∧ r = .ret (.tuple ⟨[vi x, .int .i64 0]⟩)) := by
  refine E_links_Forest_Root ?_
  unfold B_links_Forest_Root
  refine (node_T P.hd v).mono ?_
  rintro _ _ ⟨rfl, rfl⟩
  refine ⟨_, rfl, ifP_of (fun hv => ?_) (fun hv => ?_)⟩
  · exact ⟨Kp.refl, P, .inl ⟨isN_false hv, rfl⟩⟩
  · have hv : isN n v := by unfold isN; simpa using hv
    obtain ⟨w, rfl, hw⟩ := hv.nat
    obtain ⟨e, st, L, pd, f, I⟩ := P.ex
    refine (root_T f I P.fst P.small hw).mono ?_
    rintro _ h' ⟨x, rfl, st', L', pd', f', kp, R⟩
    exact ⟨_, rfl, kp, ⟨P.small, P.fst, _, _, _, _, f', R.inv⟩, .inr ⟨w, x, rfl, hw, R.rt, R.rn, rfl⟩⟩

/-- A node that has an edge above it, with the way to it on top; or the error. -/
theorem child_T (P : Forest h bf bn n par tv) (v : Int) :
    T Try.prog F.links_Forest_child [fo bf, .int .i64 v] h fun r h' => Kp bn h h' ∧ Forest h' bf bn n par tv ∧ r = .ret (.int .i64 (childC n par v)) ∧
      (childC n par v = 0 → ∃ w : Nat, v = w ∧ w < n ∧ par w ≠ -1 ∧ ∃ e st L pd, Fz h' bf bn e n st ∧ AccR n st L par tv pd w) := by
  refine E_links_Forest_child ?_
  unfold B_links_Forest_child
  refine (node_T P.hd v).mono ?_
  rintro _ _ ⟨rfl, rfl⟩
  refine ⟨_, rfl, ifP_of (fun hv => ?_) (fun hv => ?_)⟩
  · have hv : ¬ isN n v := isN_false hv
    have e : childC n par v = 30 := if_neg hv
    rw [e]
    exact ⟨Kp.refl, P, rfl, fun h => by omega⟩
  · have hv : isN n v := by unfold isN; simpa using hv
    obtain ⟨w, rfl, hw⟩ := hv.nat
    obtain ⟨e, st, L, pd, f, I⟩ := P.ex
    refine (root_T f I P.fst P.small hw).mono ?_
    rintro _ h' ⟨x, rfl, st', L', pd', f', kp, R⟩
    rw [childC_nat hw]
    refine ⟨_, rfl, ifP_of (fun hx => ?_) (fun hx => ?_)⟩
    · have hx : x = w := by have := of_decide_eq_true hx; omega
      subst hx
      rw [if_pos R.root]
      exact ⟨kp, ⟨P.small, P.fst, _, _, _, _, f', R.inv⟩, rfl, fun h => by omega⟩
    · have hx : x ≠ w := by have := of_decide_eq_false hx; omega
      have hp : par w ≠ -1 := fun hp => hx (R.rt.uniq (Rt.self hp))
      rw [if_neg hp]
      refine (access_T f' R.inv P.fst P.small hw).mono ?_
      rintro _ h2 ⟨rfl, st2, L2, pd2, f2, kp2, A⟩
      exact ⟨rfl, kp.trans kp2, ⟨P.small, P.fst, _, _, _, _, f2, A.inv⟩, rfl, fun _ => ⟨w, rfl, hw, hp, _, _, _, _, f2, A⟩⟩

theorem Value_T (P : Forest h bf bn n par tv) (v : Int) :
    T Try.prog F.links_Forest_Value [fo bf, .int .i64 v] h fun r h' => Kp bn h h' ∧ Forest h' bf bn n par tv ∧
      r = .ret (.tuple ⟨[.int .i64 (if childC n par v = 0 then tv v.toNat else 0), .int .i64 (childC n par v)]⟩) := by
  refine E_links_Forest_Value ?_
  unfold B_links_Forest_Value
  refine (child_T P v).mono ?_
  rintro _ h' ⟨kp, P', rfl, hc⟩
  refine ⟨_, rfl, ifP_of (fun h0 => ?_) (fun h0 => ?_)⟩
  · have h0 : ¬ childC n par v = 0 := by simpa using h0
    rw [if_neg h0]
    exact ⟨kp, P', rfl⟩
  · have h0 : childC n par v = 0 := by simpa using h0
    obtain ⟨w, rfl, hw, hp, e, st, L, pd, f, A⟩ := hc h0
    rw [if_pos h0, h0]
    refine nd f.hd hw ⟨_, f.ld hw (by decide), ?_⟩
    rw [A.inv.val w hw, A.p0, Int.sub_zero, w64_in (P.fst.rng w hw).1 (P.fst.rng w hw).2]
    exact ⟨kp, P', rfl⟩

theorem Cut_T (P : Forest h bf bn n par tv) (v : Int) :
    T Try.prog F.links_Forest_Cut [fo bf, .int .i64 v] h fun r h' => Kp bn h h' ∧
      r = .ret (.tuple ⟨[.int .i64 (if childC n par v = 0 then tv v.toNat else 0), .int .i64 (childC n par v)]⟩) ∧
      (childC n par v = 0 → Forest h' bf bn n (upd par v.toNat (-1)) (upd tv v.toNat 0)) ∧ (childC n par v ≠ 0 → Forest h' bf bn n par tv) := by
  refine E_links_Forest_Cut ?_
  unfold B_links_Forest_Cut
  refine (child_T P v).mono ?_
  rintro _ h' ⟨kp, P', rfl, hc⟩
  refine ⟨_, rfl, ifP_of (fun h0 => ?_) (fun h0 => ?_)⟩
  · have h0 : ¬ childC n par v = 0 := by simpa using h0
    rw [if_neg h0]
    exact ⟨kp, rfl, fun h => absurd h h0, fun _ => P'⟩
  · have h0 : childC n par v = 0 := by simpa using h0
    obtain ⟨w, rfl, hw, hp, e, st, L, pd, f, A⟩ := hc h0
    rw [if_pos h0, h0]
    have ul := A.upw hw
    obtain ⟨c, hlc⟩ : ∃ c : Nat, st w 0 = c := by
      rcases pt_of A.inv hw (k := 0) (by decide) with h | ⟨c, h, _⟩
      · exfalso
        have e1 : L w = [w] := by rw [A.inv.ino w hw, LL_neg h, LL_neg A.rt]; rfl
        rw [e1] at ul
        cases ul with
        | root h => exact hp h
        | step _ h => cases h
      · exact ⟨c, h⟩
    have hcn := (A.inv.ch w c hw (.inl hlc)).1
    have cw := A.inv.chNe hw (.inl hlc)
    refine nd f.hd hw ⟨_, f.hd.ld, _, f.ld hw (by decide), ?_⟩
    rw [hlc]
    refine nx hcn ⟨f.wr hcn (by decide), ?_⟩
    rw [f.set hcn (by decide)]
    have f1 := f.next (st' := upd2 st c 2 (-1))
    refine ⟨f1.wr hw (by decide), ?_⟩
    rw [f1.set hw (by decide), fp_fp]
    have f2 := f.next (st' := upd2 (upd2 st c 2 (-1)) w 0 (-1))
    refine ⟨_, f2.ld hw (by decide), f2.wr hw (by decide), ?_⟩
    rw [f2.set hw (by decide), fp_fp]
    have f3 := f.next (st' := upd2 (upd2 (upd2 st c 2 (-1)) w 0 (-1)) w 3 0)
    have e3 : upd2 (upd2 st c 2 (-1)) w 0 (-1) w 3 = tv w := by
      have : upd2 (upd2 st c 2 (-1)) w 0 (-1) w 3 = st w 3 := by simp [upd2]
      rw [this, A.inv.val w hw, A.p0, Int.sub_zero, w64_in (P.fst.rng w hw).1 (P.fst.rng w hw).2]
    rw [e3]
    refine (pull_A f3 hw ?_ ?_).mono ?_
    · have : upd2 (upd2 (upd2 st c 2 (-1)) w 0 (-1)) w 3 0 w 0 = -1 := by simp [upd2]
      rw [this]; exact .inl (by omega)
    · have : upd2 (upd2 (upd2 st c 2 (-1)) w 0 (-1)) w 3 0 w 1 = st w 1 := by simp [upd2]
      rw [this]; exact .inl A.rt
    rintro _ _ ⟨rfl, rfl⟩
    rw [fp_fp]
    refine ⟨rfl, kp.trans Kp.fp, rfl, fun _ => ?_, fun h => absurd rfl h⟩
    rw [Int.toNat_natCast]
    exact ⟨P.small, P.fst.cut hw, _, _, _, _, f.next, A.cut P.fst hw hlc⟩

theorem Parent_T (P : Forest h bf bn n par tv) (v : Int) :
    T Try.prog F.links_Forest_Parent [fo bf, .int .i64 v] h fun r h' => Kp bn h h' ∧ Forest h' bf bn n par tv ∧
      r = .ret (.tuple ⟨[.int .i64 (if childC n par v = 0 then par v.toNat else 0), .int .i64 (childC n par v)]⟩) := by
  refine E_links_Forest_Parent ?_
  unfold B_links_Forest_Parent
  refine (child_T P v).mono ?_
  rintro _ h' ⟨kp, P', rfl, hc⟩
  refine ⟨_, rfl, ifP_of (fun h0 => ?_) (fun h0 => ?_)⟩
  · have h0 : ¬ childC n par v = 0 := by simpa using h0
    rw [if_neg h0]
    exact ⟨kp, P', rfl⟩
  · have h0 : childC n par v = 0 := by simpa using h0
    obtain ⟨w, rfl, hw, hp, e, st, L, pd, f, A⟩ := hc h0
    rw [if_pos h0, h0]
    have ul := A.upw hw
    obtain ⟨c, hlc⟩ : ∃ c : Nat, st w 0 = c := by
      rcases pt_of A.inv hw (k := 0) (by decide) with h | ⟨c, h, _⟩
      · exfalso
        have e1 : L w = [w] := by rw [A.inv.ino w hw, LL_neg h, LL_neg A.rt]; rfl
        rw [e1] at ul
        cases ul with
        | root h => exact hp h
        | step _ h => cases h
      · exact ⟨c, h⟩
    have hcn := (A.inv.ch w c hw (.inl hlc)).1
    have lw : L w = L c ++ [w] := by rw [A.inv.ino w hw, hlc, LL_nat, LL_neg A.rt]
    have hlast : ∀ a, (L c).getLast? = some a → par w = a := by
      intro a ha
      have := A.inv.chn w hw
      rw [lw] at this
      exact (Chn.append.1 this).2.2 a w ha rfl
    refine nd f.hd hw ⟨_, f.ld hw (by decide), ?_⟩
    rw [hlc]
    let I8 : (Int × Unit) → H → Nat → Prop := fun s g k =>
      ∃ st1 pd1, ∃ u : Nat, s.1 = u ∧ u < n ∧ Fz g bf bn e n st1 ∧ Kp bn h g ∧ Inv n st1 L par tv pd1 ∧ (L u).getLast? = (L c).getLast? ∧ k = (L u).length
    refine ⟨fun s g => ∃ k, I8 s g k, rk I8, rk_wf I8, ⟨_, st, pd, c, rfl, hcn, f, kp, A.inv, rfl, rfl⟩, ?_⟩
    intro u' g hI
    obtain ⟨st1, pd1, u, hu', hu, f1, kp1, J, hl, hk⟩ := mu_spec hI
    generalize hkk : mu I8 ((u', ()), g) = k at *
    change u' = (u : Int) at hu'
    subst hu'
    refine (push_A f1 hu (pt_of J hu (by decide)) (pt_of J hu (by decide))).mono ?_
    rintro _ _ ⟨rfl, rfl⟩
    refine ⟨rfl, ?_⟩
    have J2 := J.push P.fst hu
    have f2 : Fz (fp g bn e n 6 (pushS st1 u)) bf bn e n (pushS st1 u) := f1.next
    refine nd f2.hd hu ⟨_, f2.ld hu (by decide), ?_⟩
    refine ifP_of (fun h1 => ?_) (fun h1 => ?_)
    · have h1 := of_decide_eq_true h1
      refine (splay_T f2 J2 P.fst P.small hu).mono ?_
      rintro _ g3 ⟨rfl, st3, L3, pd3, f3, kp3, R⟩
      have hpu : par w = u := by
        refine hlast u ?_
        rw [← hl, J2.ino u hu, LL_neg h1]
        simp
      rw [Int.toNat_natCast, hpu]
      exact ⟨rfl, (kp1.trans Kp.fp).trans kp3, ⟨P.small, P.fst, _, _, _, _, f3, R.inv⟩, rfl⟩
    · have h1 := of_decide_eq_false h1
      refine nd f2.hd hu ⟨_, f2.ld hu (by decide), ?_⟩
      obtain ⟨y, hy⟩ : ∃ y : Nat, pushS st1 u u 1 = y := ⟨(pushS st1 u u 1).toNat, by omega⟩
      have hyc : Ch (pushS st1 u) u y := .inr hy
      have hyn := (J2.ch u y hu hyc).1
      refine mu_next (I := I8) (k := (L y).length) ⟨_, _, y, hy, hyn, f2, kp1.trans Kp.fp, J2, ?_, rfl⟩ ?_
      · rw [← hl]
        conv => rhs; rw [J2.ino u hu, hy, LL_nat]
        cases hl2 : L y with
        | nil => have := J2.self hyn; rw [hl2] at this; cases this
        | cons a l =>
          rw [List.getLast?_append, List.getLast?_cons_cons]
          cases hg : (a :: l).getLast? with
          | none => simp at hg
          | some z => rfl
      · rw [hkk, hk]
        exact J2.len hu hyc

end
end Go.Proofs.Ytgbmkfifjijoiaa
