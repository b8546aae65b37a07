import Derived.Test.YtgbmkfifjijoiaaK18
/-! LinkAdds. -/
namespace Go.Proofs.Ytgbmkfifjijoiaa
open Go
set_option linter.unusedVariables false

/-! ### Arrays of single cells -/
def va (n : Nat) (f : Nat → Value) : List Value := (List.range n).map f
theorem va_length (n : Nat) (f : Nat → Value) : (va n f).length = n := by simp [va]
theorem va_get {n : Nat} {f : Nat → Value} {i : Nat} (h : i < n) : (va n f)[i]? = some (f i) := by
  simp [va, List.getElem?_map, List.getElem?_range h]
def updV (f : Nat → Value) (i : Nat) (x : Value) : Nat → Value := fun j => if j = i then x else f j
theorem va_set {n : Nat} {f : Nat → Value} {i : Nat} {x : Value} : (va n f).set i x = va n (updV f i x) := by
  apply List.ext_getElem
  · simp [va]
  · intro j h1 h2
    simp only [va, List.getElem_set, List.getElem_map, List.getElem_range, updV]
    by_cases e : i = j
    · subst e; simp
    · rw [if_neg e, if_neg (fun h => e h.symm)]
def VA (h : H) (b e n : Nat) (f : Nat → Value) : Prop := h b = some (.cells ⟨va n f⟩ e (0, 0))
theorem VA.ld {h : H} {b e n : Nat} {f : Nat → Value} (a : VA h b e n f) {i : Nat} (hi : i < n) : hcell h ((bk b).add (i * 1)) = some (f i) := by
  rw [bk_add, hcell_at a, Nat.mul_one, List.getElem?_toArray]
  exact va_get hi
theorem VA.wr {h : H} {b e n : Nat} {f : Nat → Value} (a : VA h b e n f) {i : Nat} (hi : i < n) : hwr h ((bk b).add (i * 1)) 1 := by
  rw [bk_add]
  refine ⟨_, _, a, rfl, ?_⟩
  simp only [List.size_toArray, va_length]
  omega
theorem VA.set {h : H} {b e n : Nat} {f : Nat → Value} (a : VA h b e n f) {i : Nat} {x : Value} (hi : i < n) :
    VA (hset h ((bk b).add (i * 1)) [x]) b e n (updV f i x) ∧ Kp b h (hset h ((bk b).add (i * 1)) [x]) := by
  rw [bk_add]
  constructor
  · unfold VA hset
    rw [if_pos rfl, a]
    simp only [Option.map_some, setR, Nat.mul_one]
    rw [List.setIfInBounds_toArray, va_set]
  · intro k o hk hh
    unfold hset
    rw [if_neg hk]
    exact hh
theorem VA.kp {h h' : H} {b b' e n : Nat} {f : Nat → Value} (a : VA h b e n f) (k : Kp b' h h') (ne : b ≠ b') : VA h' b e n f := k _ _ ne a
theorem ixV {bn n v c : Nat} {K : Addr → Prop} (hv : v < n) (k : K ((bk bn).add (v * 1))) : ixS (.slice (some (bk bn)) n c) (v : Int) 1 K := nx hv k

theorem Forest.ne {h : H} {bf bn n b : Nat} {par tv : Nat → Int} (P : Forest h bf bn n par tv) (hb : h b = none) : b ≠ bf ∧ b ≠ bn := by
  obtain ⟨e, st, L, pd, f, I⟩ := P.ex
  exact f.ne hb

theorem edges_split {par : Nat → Int} {r : Nat} : ∀ {done : List Nat} {v : Nat}, UpW par v (done ++ [r]) → ∀ w, w ∈ edges par (done ++ [r]) ↔ w ∈ done := by
  intro done
  induction done with
  | nil =>
    intro v h w
    cases h with
    | root hp =>
      unfold edges
      simp [hp]
    | step _ h => cases h
  | cons a done ih =>
    intro v h w
    rw [List.cons_append] at h ⊢
    have ih := fun u (hu : UpW par u (done ++ [r])) => ih hu w
    have hne : done ++ [r] ≠ [] := by simp
    generalize done ++ [r] = m at h ih hne ⊢
    cases h with
    | root _ => exact absurd rfl hne
    | step hp h =>
      have := ih _ h
      unfold edges at this ⊢
      rw [List.filter_cons, if_pos (by simp; omega)]
      simp only [List.mem_cons]
      rw [this]

theorem LinkAdds_T {h : H} {s : Value} {l : Nat} {ops : Nat → Opn} (S : Scr h s l ops) (hl : l < 9223372036854775807) (v x : Int) :
    T Try.prog F.compasslaw07_LinkAdds [s, .int .i64 v, .int .i64 x] h fun r h' => r = .ret (.bool true) ∧ Ext h h' := by
  refine E_compasslaw07_LinkAdds ?_
  unfold B_compasslaw07_LinkAdds
  refine (grown_T S hl).mono ?_
  rintro _ h1 ⟨x1, bf, bn, par, tv, rfl, hbf, hbn, P1, G, Bb⟩
  refine rt_ret ?_
  refine (grown_T (S.ext x1) hl).mono ?_
  rintro _ h2 ⟨x2, cf, cn, par', tv', rfl, hcf, hcn, Q2, G', _⟩
  obtain ⟨rfl, rfl⟩ := G.uniq G'
  have P2 := P1.ext x2
  have nef := P1.ne hcf
  have nen := P1.ne hcn
  refine rt_ret ?_
  refine ⟨fun _ g => Ext h g ∧ Forest g bf bn 12 par tv ∧ Forest g cf cn 12 par tv, ?_, ?_⟩
  · refine ptrO_mk (ifP_of (fun hh => by cases hh) (fun _ => ptrO_mk (ifP_of (fun hh => by cases hh) (fun _ => ?_))))
    refine (awake_T h2).mono ?_
    rintro _ h3 ⟨rfl, x3⟩
    refine ⟨_, rfl, ifP_of (fun hh => by cases hh) (fun _ => ?_)⟩
    exact ⟨(x1.trans' x2).trans' x3, P2.ext x3, Q2.ext x3⟩
  rintro h3 ⟨x3, P3, Q3⟩
  have rng : isL x → ∀ w, w < 12 → -9223372036854775808 ≤ tv w + x ∧ tv w + x < 9223372036854775808 := by
    intro hx w hw
    have := Bb w hw
    unfold isL at hx
    omega
  refine (Add_T P3 v x rng).mono ?_
  rintro _ h4 ⟨k4, c, tv4, rfl, A4, P4⟩
  refine ⟨_, rfl, ?_⟩
  have x4 := x3.of_kp k4 hbn
  have Q4 := Q3.kp k4 (fun e => nef.2 e.symm) (fun e => nen.2 e.symm)
  cases A4 with
  | node hn =>
    refine ifP_of (fun _ => ifP_of (fun _ => ifP_of (fun _ => ⟨rfl, x4⟩) (fun h0 => ?_)) (fun hh => by simp at hh)) (fun hh => by simp at hh)
    refine ifP_of (fun _ => ⟨rfl, x4⟩) (fun h1 => ?_)
    have h0 := of_decide_eq_false h0
    have h1 := of_decide_eq_false h1
    exact absurd ⟨by omega, by omega⟩ hn
  | label hv hx =>
    refine ifP_of (fun _ => ifP_of (fun hh => by simp at hh) (fun _ => ifP_of (fun _ => ?_) (fun hh => by simp at hh))) (fun hh => by simp at hh)
    refine ifP_of (fun _ => ⟨rfl, x4⟩) (fun h1 => ?_)
    have h1 := of_decide_eq_false h1
    refine ⟨?_, x4⟩
    have : x < -1048576 := by
      apply Int.lt_of_not_ge
      intro h2
      exact hx ⟨by omega, by omega⟩
    rw [decide_eq_true this]
  | @ok lst hv hx hu =>
    refine ifP_of (fun hh => by simp at hh) (fun _ => ?_)
    obtain ⟨w, rfl, hw⟩ := hv.nat
    rw [Int.toNat_natCast] at hu
    refine ⟨by decide, by decide, by decide, by decide, ?_⟩
    refine new_put ?_
    intro b17 h5 hb5 x5 e5
    have hbh : h b17 = none := by
      cases e : h b17 with
      | none => rfl
      | some o => rw [x4 _ _ e] at hb5; cases hb5
    have nb1 := P4.ne hb5
    have nb2 := Q4.ne hb5
    obtain ⟨ty, V5⟩ : ∃ ty, VA h5 b17 ty 12 fun _ => .bool false := ⟨_, e5⟩
    have P5 := P4.ext x5
    have Q5 := Q4.ext x5
    have x45 := x4.trans' x5
    refine (Root_T Q5 w).mono ?_
    rintro _ h6 ⟨k6, Q6, ⟨hn, _⟩ | ⟨w2, r, hw2, _, hrt, hrn, rfl⟩⟩
    · exact absurd hv hn
    have hw2 : w2 = w := by omega
    subst hw2
    refine ⟨_, _, rfl, ?_⟩
    have hcnh : h cn = none := by
      cases e : h cn with
      | none => rfl
      | some o => rw [x1 _ _ e] at hcn; cases hcn
    have x6 := x45.of_kp k6 hcnh
    have P6 := P5.kp k6 nen.1 nen.2
    have V6 := V5.kp k6 nb2.2
    have hlen := hu.len P6.fst hw
    have hlt := hu.lt P6.fst hw
    let I23 : (Int × Unit) → H → Nat → Prop := fun s g k => ∃ (done rest : List Nat) (u : Nat), lst = done ++ rest ∧ UpW par u rest ∧ u < 12 ∧ s.1 = u ∧ k = rest.length ∧
      Ext h g ∧ Forest g bf bn 12 par (addT tv (edges par lst) x) ∧ Forest g cf cn 12 par tv ∧ VA g b17 ty 12 fun i => .bool (decide (i ∈ done))
    refine ⟨fun s g => ∃ k, I23 s g k, rk I23, rk_wf I23, ⟨_, [], lst, w2, rfl, hu, hw, rfl, rfl, x6, P6, Q6, by simpa using V6⟩, ?_⟩
    intro u' g hI
    obtain ⟨done, rest, u, hsplit, hur, hun, e1, hk, xg, P, Q, V⟩ := mu_spec hI
    generalize hkk : mu I23 ((u', ()), g) = k at *
    change u' = (u : Int) at e1
    subst e1
    refine ifP_of (fun hne => ?_) (fun hne => ?_)
    · have hne : (u : Int) ≠ r := by simpa using hne
      have hpu : par u ≠ -1 := fun hp => by
        have h1 := hur.uniq (.root hp)
        rw [h1] at hsplit
        have : Rt par w2 u := ⟨_, hu, by rw [hsplit, List.getLast?_append]; rfl⟩
        exact hne (by rw [this.uniq hrt])
      have eu : childC 12 par u = 0 := by rw [childC_nat hun, if_neg hpu]
      refine (Parent_T Q _).mono ?_
      rintro _ g2 ⟨k2, Q', rfl⟩
      rw [eu, if_pos rfl, Int.toNat_natCast]
      refine ⟨_, _, rfl, ?_⟩
      refine ifP_of (fun hh => by simp at hh) (fun _ => ?_)
      have V2 := V.kp k2 nb2.2
      have P' := P.kp k2 nen.1 nen.2
      cases hur with
      | root hp => exact absurd hp hpu
      | @step _ p rest hp hur' =>
        have hpn : p < 12 := by
          rcases P.fst.pt u hun with h | ⟨q, hq, hqn⟩
          · exact absurd h hpu
          · have : p = q := by omega
            subst this; exact hqn
        have hnd := hu.nodup P6.fst hw
        have hud : u ∉ done := by
          rw [hsplit] at hnd
          intro hm
          exact (List.nodup_append.1 hnd).2.2 u hm u (by simp) rfl
        refine ixV (n := 12) hun ?_
        refine ⟨_, V2.ld hun, ?_⟩
        refine ifP_of (fun hh => absurd (of_decide_eq_true hh) hud) (fun _ => ?_)
        refine ixV (n := 12) hun ?_
        refine ⟨V2.wr hun, ?_⟩
        obtain ⟨V3, k3⟩ := V2.set (x := .bool true) hun
        have ev : updV (fun i => Value.bool (decide (i ∈ done))) u (.bool true) = fun i => .bool (decide (i ∈ done ++ [u])) := by
          funext i
          unfold updV
          by_cases hi : i = u
          · subst hi; simp
          · rw [if_neg hi]; simp [hi]
        rw [ev] at V3
        rw [hp]
        refine mu_next (I := I23) (k := rest.length) ⟨done ++ [u], rest, p, by rw [hsplit]; simp, hur', hpn, rfl, rfl, (xg.of_kp k2 hcnh).of_kp k3 hbh, P'.kp k3 nb1.1 nb1.2, Q'.kp k3 nb2.1 nb2.2, V3⟩ (by rw [hkk, hk]; simp)
    · have hur2 : u = r := by
        have : (u : Int) = r := by simpa using hne
        omega
      subst hur2
      have h1 := hur.uniq (.root hrt.root)
      rw [h1] at hsplit
      have hed : ∀ y, y ∈ edges par lst ↔ y ∈ done := by
        intro y
        rw [hsplit] at hu ⊢
        exact edges_split hu y
      have hdp : ∀ y ∈ done, par y ≠ -1 := by
        intro y hy
        have := (hed y).2 hy
        unfold edges at this
        simpa using (List.mem_filter.1 this).2
      generalize hE : edges par lst = E at *
      let I37 : (Int × Unit) → H → Nat → Prop := fun s g k => ∃ i : Nat, s.1 = i ∧ i ≤ 12 ∧ k = 12 - i ∧
        Ext h g ∧ Forest g bf bn 12 par (addT tv E x) ∧ Forest g cf cn 12 par tv ∧ VA g b17 ty 12 fun i => .bool (decide (i ∈ done))
      refine ⟨fun s g => ∃ k, I37 s g k, rk I37, rk_wf I37, ⟨_, 0, rfl, by omega, rfl, xg, P, Q, V⟩, ?_⟩
      intro s' g3 hI
      obtain ⟨i, e1, hi, hk3, x3', P3', Q3', V3⟩ := mu_spec hI
      generalize hkk3 : mu I37 ((s', ()), g3) = k3 at *
      change s' = (i : Int) at e1
      subst e1
      refine ifP_of (fun hlt' => ?_) (fun hge => ?_)
      · have hi12 : i < 12 := by have := of_decide_eq_true hlt'; omega
        refine (Value_T P3' _).mono ?_
        rintro _ g4 ⟨k4', P4', rfl⟩
        refine ⟨_, _, rfl, ?_⟩
        have Q4' := Q3'.kp k4' (fun e => nef.2 e.symm) (fun e => nen.2 e.symm)
        have V4 := V3.kp k4' nb1.2
        refine (Value_T Q4' _).mono ?_
        rintro _ g5 ⟨k5', Q5', rfl⟩
        refine ⟨_, _, rfl, ?_⟩
        have P5' := P4'.kp k5' nen.1 nen.2
        have V5' := V4.kp k5' nb2.2
        have x5' := (x3'.of_kp k4' hbn).of_kp k5' hcnh
        have next : (∃ k, I37 (IntKind.i64.wrap ((i : Int) + 1), ()) g5 k) ∧ rk I37 ((IntKind.i64.wrap ((i : Int) + 1), ()), g5) (((i : Int), ()), g3) := by
          rw [i64_inc (by omega)]
          exact mu_next (I := I37) (k := 12 - (i + 1)) ⟨i + 1, rfl, hi12, rfl, x5', P5', Q5', V5'⟩ (by rw [hkk3, hk3]; omega)
        rw [Int.toNat_natCast]
        refine ifP_of (fun hh => by simp at hh) (fun _ => ?_)
        refine ixV (n := 12) hi12 ⟨_, V5'.ld hi12, ?_⟩
        by_cases hid : i ∈ done
        · have ec : childC 12 par i = 0 := by rw [childC_nat hi12, if_neg (hdp i hid)]
          have eA : addT tv E x i = tv i + x := if_pos ((hed i).2 hid)
          have r1 := rng hx i hi12
          rw [ec, if_pos rfl, if_pos rfl, eA]
          refine ifP_of (fun _ => ?_) (fun hh => absurd hid (of_decide_eq_false hh))
          refine ifP_of (fun hh => ?_) (fun _ => ?_)
          · have : IntKind.i64.wrap (tv i + x) = tv i + x := w64_in r1.1 r1.2
            rw [this] at hh; simp at hh
          · refine ixV (n := 12) hi12 ⟨_, V5'.ld hi12, ?_⟩
            exact ifP_of (fun hh => by simp [hid] at hh) (fun _ => next)
        · have eA : (if childC 12 par i = 0 then addT tv E x i else 0) = (if childC 12 par i = 0 then tv i else 0) := by
            have : addT tv E x i = tv i := if_neg (fun h => hid ((hed i).1 h))
            rw [this]
          rw [eA]
          refine ifP_of (fun hh => absurd (of_decide_eq_true hh) hid) (fun _ => ?_)
          refine ixV (n := 12) hi12 ⟨_, V5'.ld hi12, ?_⟩
          refine ifP_of (fun _ => ifP_of (fun hh => by simp at hh) (fun _ => next)) (fun _ => next)
      · have hx' : IntKind.i64.wrap (0 - x) = -x := by
          unfold isL at hx
          have : IntKind.i64.wrap (0 - x) = 0 - x := w64_in (by omega) (by omega)
          rw [this]; omega
        rw [hx']
        have hxl : isL (-x) := by unfold isL at hx ⊢; omega
        refine (Add_T P3' _ (-x) (fun _ y hy => ?_)).mono ?_
        · have := Bb y hy
          unfold isL at hx
          unfold addT
          split <;> omega
        rintro _ g4 ⟨k4', c4, tv4, rfl, A4', P4'⟩
        refine ⟨_, rfl, ?_⟩
        have Q4' := Q3'.kp k4' (fun e => nef.2 e.symm) (fun e => nen.2 e.symm)
        have x4' := x3'.of_kp k4' hbn
        cases A4' with
        | node hn => exact absurd hv hn
        | label _ hn => exact absurd hxl hn
        | @ok lst' _ _ hu' =>
          rw [Int.toNat_natCast] at hu'
          have := hu'.uniq hu
          subst this
          rw [hE] at P4'
          have eT : addT (addT tv E x) E (-x) = tv := by
            funext y
            unfold addT
            by_cases hy : y ∈ E
            · rw [if_pos hy, if_pos hy]; omega
            · rw [if_neg hy, if_neg hy]
          rw [eT] at P4'
          refine ifP_of (fun hh => by simp at hh) (fun _ => ?_)
          let I62 : (Int × Unit) → H → Nat → Prop := fun s g k => ∃ i : Nat, s.1 = i ∧ i ≤ 12 ∧ k = 12 - i ∧ Ext h g ∧ Forest g bf bn 12 par tv ∧ Forest g cf cn 12 par tv
          refine ⟨fun s g => ∃ k, I62 s g k, rk I62, rk_wf I62, ⟨_, 0, rfl, by omega, rfl, x4', P4', Q4'⟩, ?_⟩
          intro s6 g6 hI
          obtain ⟨j, e1, hj, hk6, x6', P6', Q6'⟩ := mu_spec hI
          generalize hkk6 : mu I62 ((s6, ()), g6) = k6 at *
          change s6 = (j : Int) at e1
          subst e1
          refine ifP_of (fun hlt' => ?_) (fun hge => ⟨rfl, x6'⟩)
          have hj12 : j < 12 := by have := of_decide_eq_true hlt'; omega
          refine (Value_T P6' _).mono ?_
          rintro _ g7 ⟨k7, P7, rfl⟩
          refine ⟨_, _, rfl, ?_⟩
          have Q7 := Q6'.kp k7 (fun e => nef.2 e.symm) (fun e => nen.2 e.symm)
          refine (Value_T Q7 _).mono ?_
          rintro _ g8 ⟨k8, Q8, rfl⟩
          refine ⟨_, _, rfl, ?_⟩
          refine ifP_of (fun hh => by simp at hh) (fun _ => ?_)
          rw [i64_inc (by omega)]
          exact mu_next (I := I62) (k := 12 - (j + 1)) ⟨j + 1, rfl, hj12, rfl, (x6'.of_kp k7 hbn).of_kp k8 hcnh, P7.kp k8 nen.1 nen.2, Q8⟩ (by rw [hkk6, hk6]; omega)

end Go.Proofs.Ytgbmkfifjijoiaa
