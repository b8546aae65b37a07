import Derived.Test.YtgbmkfifjijoiaaK19
/-! LinkCuts. -/
namespace Go.Proofs.Ytgbmkfifjijoiaa
open Go
set_option linter.unusedVariables false

theorem UpW.cut_in {par : Nat → Int} {u v : Nat} {l : List Nat} (a : UpW par u l) (h : v ∈ l) : Rt (upd par v (-1)) u v := by
  induction a with
  | @root u hp =>
    have : v = u := by simpa using h
    subst this
    exact Rt.self (if_pos rfl)
  | @step u w l hp a ih =>
    by_cases e : u = v
    · subst e; exact Rt.self (if_pos rfl)
    · have : v ∈ l := by
        rcases List.mem_cons.1 h with h | h
        · exact absurd h.symm e
        · exact h
      exact Rt.up (by unfold upd; rw [if_neg e]; exact hp) (ih this)
theorem UpW.cut_out {par : Nat → Int} {u v : Nat} {l : List Nat} (a : UpW par u l) (h : v ∉ l) : UpW (upd par v (-1)) u l := by
  induction a with
  | @root u hp =>
    have : ¬ u = v := fun e => h (by simp [e])
    exact .root (by unfold upd; rw [if_neg this]; exact hp)
  | @step u w l hp a ih =>
    have : ¬ u = v := fun e => h (by simp [e])
    exact .step (by unfold upd; rw [if_neg this]; exact hp) (ih fun hm => h (List.mem_cons_of_mem _ hm))

theorem LinkCuts_T {h : H} {s : Value} {l : Nat} {ops : Nat → Opn} (S : Scr h s l ops) (hl : l < 9223372036854775807) (v : Int) :
    T Try.prog F.compasslaw07_LinkCuts [s, .int .i64 v] h fun r h' => r = .ret (.bool true) ∧ Ext h h' := by
  refine E_compasslaw07_LinkCuts ?_
  unfold B_compasslaw07_LinkCuts
  refine (grown_T S hl).mono ?_
  rintro _ h1 ⟨x1, bf, bn, par, tv, rfl, hbf, hbn, P1, G, Bb⟩
  refine rt_ret ?_
  refine (grown_T (S.ext x1) hl).mono ?_
  rintro _ h2 ⟨x2, cf, cn, par', tv', rfl, hcf, hcn, Q2, G', _⟩
  obtain ⟨rfl, rfl⟩ := G.uniq G'
  have P2 := P1.ext x2
  have nef := P1.ne hcf
  have nen := P1.ne hcn
  have hcnh : h cn = none := by
    cases e : h cn with
    | none => rfl
    | some o => rw [x1 _ _ e] at hcn; cases hcn
  refine rt_ret ?_
  refine ⟨fun _ g => Ext h g ∧ Forest g bf bn 12 par tv ∧ Forest g cf cn 12 par tv, ?_, ?_⟩
  · refine ptrO_mk (ifP_of (fun hh => by cases hh) (fun _ => ptrO_mk (ifP_of (fun hh => by cases hh) (fun _ => ?_))))
    refine (awake_T h2).mono ?_
    rintro _ h3 ⟨rfl, x3⟩
    refine ⟨_, rfl, ifP_of (fun hh => by cases hh) (fun _ => ?_)⟩
    exact ⟨(x1.trans' x2).trans' x3, P2.ext x3, Q2.ext x3⟩
  rintro h3 ⟨x3, P3, Q3⟩
  have fg : ∀ {g g' : H} {p t : Nat → Int}, Forest g cf cn 12 p t → Kp bn g g' → Forest g' cf cn 12 p t := fun Q k => Q.kp k (fun e => nef.2 e.symm) (fun e => nen.2 e.symm)
  have gf : ∀ {g g' : H} {p t : Nat → Int}, Forest g bf bn 12 p t → Kp cn g g' → Forest g' bf bn 12 p t := fun P k => P.kp k nen.1 nen.2
  refine (Parent_T P3 v).mono ?_
  rintro _ h4 ⟨k4, P4, rfl⟩
  refine ⟨_, _, rfl, ?_⟩
  refine (Cut_T P4 v).mono ?_
  rintro _ h5 ⟨k5, rfl, cutY, cutN⟩
  refine ⟨_, _, rfl, ?_⟩
  have x5 := (x3.of_kp k4 hbn).of_kp k5 hbn
  have Q5 := fg (fg Q3 k4) k5
  refine ifP_of (fun hh => by simp at hh) (fun _ => ?_)
  refine ifP_of (fun hc => ?_) (fun hc => ?_)
  · have hc : ¬ childC 12 par v = 0 := by simpa using hc
    rw [if_neg hc, if_neg hc]
    refine ifP_of (fun _ => ⟨rfl, x5⟩) (fun hh => by simp at hh)
  have hc : childC 12 par v = 0 := by simpa using hc
  have hv : isN 12 v := by
    apply Classical.byContradiction
    intro hn
    unfold childC at hc
    rw [if_neg hn] at hc
    omega
  obtain ⟨w, rfl, hw⟩ := hv.nat
  have hpw : par w ≠ -1 := by
    intro hp
    rw [childC_nat hw, if_pos hp] at hc
    omega
  have P5 := cutY hc
  rw [Int.toNat_natCast] at P5
  rw [if_pos hc, if_pos hc, Int.toNat_natCast]
  obtain ⟨p, hp, hpn⟩ : ∃ p : Nat, par w = p ∧ p < 12 := by
    rcases P3.fst.pt w hw with h | h
    · exact absurd h hpw
    · exact h
  let I22 : (Int × Unit) → H → Nat → Prop := fun s g k => ∃ i : Nat, s.1 = i ∧ i ≤ 12 ∧ k = 12 - i ∧ Ext h g ∧ Forest g bf bn 12 (upd par w (-1)) (upd tv w 0) ∧ Forest g cf cn 12 par tv
  refine ⟨fun s g => ∃ k, I22 s g k, rk I22, rk_wf I22, ⟨_, 0, rfl, by omega, rfl, x5, P5, Q5⟩, ?_⟩
  intro u' g6 hI
  obtain ⟨u, e1, hu, hk6, x6, P6, Q6⟩ := mu_spec hI
  generalize hkk6 : mu I22 ((u', ()), g6) = k6 at *
  change u' = (u : Int) at e1
  subst e1
  refine ifP_of (fun hlt' => ?_) (fun hge => ?_)
  · have hu12 : u < 12 := by have := of_decide_eq_true hlt'; omega
    refine (Root_T Q6 u).mono ?_
    rintro _ g7 ⟨k7, Q7, ⟨hn, _⟩ | ⟨u2, r, hu2, _, hrt, hrn, rfl⟩⟩
    · exact absurd (isN_of hu12) hn
    have hu2 : u2 = u := by omega
    subst hu2
    refine ⟨_, _, rfl, ?_⟩
    have x7 := x6.of_kp k7 hcnh
    have P7 := gf P6 k7
    obtain ⟨lst, hup, hltl⟩ := UpW.exists Q7.fst u2 hu12
    let I30 : (Bool × Int × Unit) → H → Nat → Prop := fun s g k => ∃ (done rest : List Nat) (y : Nat), lst = done ++ rest ∧ UpW par y rest ∧ y < 12 ∧ s.2.1 = y ∧ s.1 = decide (w ∈ done) ∧ k = rest.length ∧
      Ext h g ∧ Forest g bf bn 12 (upd par w (-1)) (upd tv w 0) ∧ Forest g cf cn 12 par tv
    refine ⟨fun s g => ∃ k, I30 s g k, rk I30, rk_wf I30, ⟨_, [], lst, u2, rfl, hup, hu12, rfl, rfl, rfl, x7, P7, Q7⟩, ?_⟩
    intro bel' y' g hI
    obtain ⟨done, rest, y, hsplit, hyr, hyn, e1, e2, hk, xg, P, Q⟩ := mu_spec hI
    generalize hkk : mu I30 ((bel', y', ()), g) = k at *
    change y' = (y : Int) at e1
    change bel' = decide (w ∈ done) at e2
    subst e1 e2
    refine ifP_of (fun hne => ?_) (fun hne => ?_)
    · have hne : (y : Int) ≠ r := by simpa using hne
      have hpy : par y ≠ -1 := fun hp => by
        have h1 := hyr.uniq (.root hp)
        rw [h1] at hsplit
        have : Rt par u2 y := ⟨_, hup, by rw [hsplit, List.getLast?_append]; rfl⟩
        exact hne (by rw [this.uniq hrt])
      refine ⟨fun b g' => g = g' ∧ b.1 = decide (w ∈ done ++ [y]), ?_, ?_⟩
      · refine ifP_of (fun hh => ⟨rfl, ?_⟩) (fun hh => ⟨rfl, ?_⟩)
        · have := of_decide_eq_true hh
          simp [this]
        · have hnd := of_decide_eq_false hh
          by_cases hyw : y = w
          · subst hyw; simp
          · have : ¬ (y : Int) = w := by omega
            have h2 : ¬ w = y := fun e => hyw e.symm
            simp [hnd, this, h2]
      · rintro fd _ ⟨rfl, hfd⟩
        have ey : childC 12 par y = 0 := by rw [childC_nat hyn, if_neg hpy]
        refine (Parent_T Q _).mono ?_
        rintro _ g2 ⟨k2, Q', rfl⟩
        rw [ey, if_pos rfl, Int.toNat_natCast]
        refine ⟨_, _, rfl, ?_⟩
        refine ifP_of (fun hh => by simp at hh) (fun _ => ?_)
        cases hyr with
        | root hp => exact absurd hp hpy
        | @step _ q rest hq hyr' =>
          have hqn : q < 12 := by
            rcases P3.fst.pt y hyn with h | ⟨q', hq', hqn⟩
            · exact absurd h hpy
            · have : q = q' := by omega
              subst this; exact hqn
          rw [hq]
          exact mu_next (I := I30) (k := rest.length) ⟨done ++ [y], rest, q, by rw [hsplit]; simp, hyr', hqn, rfl, hfd, rfl, xg.of_kp k2 hcnh, gf P k2, Q'⟩ (by rw [hkk, hk]; simp)
    · have hyr2 : y = r := by
        have : (y : Int) = r := by simpa using hne
        omega
      subst hyr2
      have h1 := hyr.uniq (.root hrt.root)
      rw [h1] at hsplit
      refine (Root_T P u2).mono ?_
      rintro _ g8 ⟨k8, P8, ⟨hn, _⟩ | ⟨u3, z, hu3, _, hrz, hzn, rfl⟩⟩
      · exact absurd (isN_of hu12) hn
      have hu3 : u3 = u2 := by omega
      subst hu3
      refine ⟨_, _, rfl, ?_⟩
      have next : (∃ k, I22 (IntKind.i64.wrap ((u3 : Int) + 1), ()) g8 k) ∧ rk I22 ((IntKind.i64.wrap ((u3 : Int) + 1), ()), g8) (((u3 : Int), ()), g6) := by
        rw [i64_inc (by omega)]
        exact mu_next (I := I22) (k := 12 - (u3 + 1)) ⟨u3 + 1, rfl, hu12, rfl, xg.of_kp k8 hbn, P8, fg Q k8⟩ (by rw [hkk6, hk6]; omega)
      by_cases hwd : w ∈ done
      · have hz : z = w := hrz.uniq (hup.cut_in (by rw [hsplit]; simp [hwd]))
        subst hz
        refine ifP_of (fun _ => ?_) (fun hh => absurd hwd (of_decide_eq_false hh))
        refine ifP_of (fun hh => by simp at hh) (fun _ => ?_)
        exact ifP_of (fun hh => by simp [hwd] at hh) (fun _ => next)
      · have hwl : w ∉ lst := by
          rw [hsplit]
          intro hm
          rcases List.mem_append.1 hm with h | h
          · exact hwd h
          · have : w = y := by simpa using h
            subst this
            exact hpw hrt.root
        have hz : z = y := hrz.uniq ⟨_, hup.cut_out hwl, by rw [hsplit, List.getLast?_append]; rfl⟩
        subst hz
        refine ifP_of (fun hh => absurd (of_decide_eq_true hh) hwd) (fun _ => ?_)
        exact ifP_of (fun _ => ifP_of (fun hh => by simp at hh) (fun _ => next)) (fun _ => next)
  · -- linked again
    rw [hp]
    refine (Link_T P6 w p (tv w)).mono ?_
    rintro _ g7 ⟨k7, c, par7, tv7, rfl, S7, P7⟩
    refine ⟨_, rfl, ?_⟩
    have x7 := x6.of_kp k7 hbn
    have Q7 := fg Q6 k7
    obtain ⟨lp, hlp, _⟩ := UpW.exists Q7.fst p hpn
    have hwp : w ∉ lp := by
      have := (UpW.step hp hlp).nodup Q7.fst hw
      exact (List.nodup_cons.1 this).1
    cases S7 with
    | node hn => exact absurd ⟨isN_of hw, isN_of hpn⟩ hn
    | label _ _ hx =>
      refine ifP_of (fun _ => ?_) (fun hh => by simp at hh)
      refine ifP_of (fun _ => ⟨rfl, x7⟩) (fun h1 => ?_)
      have h1 := of_decide_eq_false h1
      have : tv w < -1048576 := by
        apply Int.lt_of_not_ge
        intro h2
        exact hx ⟨by omega, by omega⟩
      rw [decide_eq_true this]
      exact ⟨rfl, x7⟩
    | root _ _ _ hn => exact absurd (if_pos (by simp)) hn
    | cycle _ _ _ _ hn =>
      exfalso
      rw [Int.toNat_natCast, Int.toNat_natCast] at hn
      obtain ⟨r, hr1, hr2⟩ := hlp.last
      have e := hn.uniq ⟨lp, hlp.cut_out hwp, hr1⟩
      subst e
      exact hwp (List.mem_of_getLast? hr1)
    | ok _ _ hx _ _ =>
      refine ifP_of (fun hh => by simp at hh) (fun _ => ?_)
      rw [Int.toNat_natCast] at P7
      have ep : upd (upd par w (-1)) w p = par := by
        funext y
        unfold upd
        by_cases hy : y = w
        · rw [if_pos hy, hy, hp]
        · rw [if_neg hy, if_neg hy]
      have et : upd (upd tv w 0) w (tv w) = tv := by
        funext y
        unfold upd
        by_cases hy : y = w
        · rw [if_pos hy, hy]
        · rw [if_neg hy, if_neg hy]
      rw [ep, et] at P7
      let I55 : (Int × Unit) → H → Nat → Prop := fun s g k => ∃ i : Nat, s.1 = i ∧ i ≤ 12 ∧ k = 12 - i ∧ Ext h g ∧ Forest g bf bn 12 par tv ∧ Forest g cf cn 12 par tv
      refine ⟨fun s g => ∃ k, I55 s g k, rk I55, rk_wf I55, ⟨_, 0, rfl, by omega, rfl, x7, P7, Q7⟩, ?_⟩
      intro s8 g8 hI
      obtain ⟨j, e1, hj, hk8, x8, P8, Q8⟩ := mu_spec hI
      generalize hkk8 : mu I55 ((s8, ()), g8) = k8 at *
      change s8 = (j : Int) at e1
      subst e1
      refine ifP_of (fun hlt' => ?_) (fun hge => ⟨rfl, x8⟩)
      have hj12 : j < 12 := by have := of_decide_eq_true hlt'; omega
      refine (Parent_T P8 _).mono ?_
      rintro _ g9 ⟨k9, P9, rfl⟩
      refine ⟨_, _, rfl, ?_⟩
      refine (Parent_T (fg Q8 k9) _).mono ?_
      rintro _ g10 ⟨k10, Q10, rfl⟩
      refine ⟨_, _, rfl, ?_⟩
      refine (Value_T (gf P9 k10) _).mono ?_
      rintro _ g11 ⟨k11, P11, rfl⟩
      refine ⟨_, _, rfl, ?_⟩
      refine (Value_T (fg Q10 k11) _).mono ?_
      rintro _ g12 ⟨k12, Q12, rfl⟩
      refine ⟨_, _, rfl, ?_⟩
      refine ifP_of (fun hh => by simp at hh) (fun _ => ?_)
      refine ifP_of (fun hh => by simp at hh) (fun _ => ?_)
      refine ifP_of (fun hh => by simp at hh) (fun _ => ?_)
      rw [i64_inc (by omega)]
      exact mu_next (I := I55) (k := 12 - (j + 1)) ⟨j + 1, rfl, hj12, rfl, (((x8.of_kp k9 hbn).of_kp k10 hcnh).of_kp k11 hbn).of_kp k12 hcnh, gf P11 k12, Q12⟩ (by rw [hkk8, hk8]; omega)

end Go.Proofs.Ytgbmkfifjijoiaa
