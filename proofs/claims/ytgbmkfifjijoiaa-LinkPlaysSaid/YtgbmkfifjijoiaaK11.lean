import Derived.Test.YtgbmkfifjijoiaaK10
/-! access and root: the walks. -/
namespace Go.Proofs.Ytgbmkfifjijoiaa
open Go
set_option linter.unusedVariables false

section
variable {bf bn n e : Nat} {h : H} {st : St} {L : Nat → List Nat} {par tv pd : Nat → Int}

/-- The way to v is one splay tree, v on top, nothing below it. -/
structure AccR (n : Nat) (st : St) (L : Nat → List Nat) (par tv pd : Nat → Int) (v : Nat) : Prop where
  inv : Inv n st L par tv pd
  top : Top st v
  up : st v 2 = -1
  rt : st v 1 < 0
  last : (L v).getLast? = some v
  a0 : st v 5 = 0
  p0 : pd v = 0

theorem LL_nil_of (I : Inv n st L par tv pd) {v k : Nat} (hv : v < n) (hk : k < 2) (h : LL L (st v k) = []) : st v k < 0 := by
  rcases pt_of I hv hk with h1 | ⟨w, h1, hw⟩
  · exact h1
  · rw [h1, LL_nat] at h
    have := I.self hw
    rw [h] at this; cases this

theorem head_neg (I : Inv n st L par tv pd) (Fo : Fst n par tv) {v : Nat} (hv : v < n) (hT : Top st v) (h : st v 2 < 0) : st v 2 = -1 := by
  obtain ⟨a, l, e1, e2⟩ := I.hd v hv hT
  have ha : a < n := I.lt v hv a (by rw [e1]; simp)
  rcases Fo.pt a ha with h1 | ⟨u, h1, _⟩ <;> omega

theorem last_rt (I : Inv n st L par tv pd) (Fo : Fst n par tv) {v : Nat} (hv : v < n) (h : (L v).getLast? = some v) : st v 1 < 0 := by
  refine LL_nil_of I hv (by decide) ?_
  have nd := I.nodup Fo hv
  rw [I.ino v hv] at h nd
  cases hl : LL L (st v 1) with
  | nil => rfl
  | cons b l =>
    rw [hl] at h nd
    have hm : v ∈ b :: l := by
      rw [List.getLast?_append] at h
      have : (v :: b :: l).getLast? = (b :: l).getLast? := by simp [List.getLast?_cons_cons]
      rw [this] at h
      cases hg : (b :: l).getLast? with
      | none => simp at hg
      | some z =>
        rw [hg] at h
        simp at h
        subst h
        exact List.mem_of_getLast? hg
    have := (List.nodup_append.1 nd).2.1
    exact absurd hm (List.nodup_cons.1 this).1

theorem first_lf (I : Inv n st L par tv pd) (Fo : Fst n par tv) {v : Nat} (hv : v < n) (h : (L v).head? = some v) : st v 0 < 0 := by
  refine LL_nil_of I hv (by decide) ?_
  have nd := I.nodup Fo hv
  rw [I.ino v hv] at h nd
  cases hl : LL L (st v 0) with
  | nil => rfl
  | cons b l =>
    rw [hl] at h nd
    simp at h
    subst h
    simp at nd

theorem access_T (f : Fz h bf bn e n st) (I : Inv n st L par tv pd) (Fo : Fst n par tv) (hn : n ≤ 1024) {v : Nat} (hv : v < n) :
    T Try.prog F.links_Forest_access [fo bf, vi v] h fun r h' => r = .ret unit0 ∧
      ∃ st' L' pd', Fz h' bf bn e n st' ∧ Kp bn h h' ∧ AccR n st' L' par tv pd' v := by
  refine E_links_Forest_access ?_
  unfold B_links_Forest_access
  obtain ⟨d, hd⟩ := Fo.acy
  let I1 : (Int × Int × Unit) → H → Nat → Prop := fun s g k =>
    ∃ st1 L1 pd1, Fz g bf bn e n st1 ∧ Kp bn h g ∧ Inv n st1 L1 par tv pd1 ∧
      ((s.1 = -1 ∧ s.2.1 = v ∧ k = d v + 1) ∨ ∃ x : Nat, s.1 = x ∧ x < n ∧ Top st1 x ∧ st1 x 2 = s.2.1 ∧ (L1 x).getLast? = some v ∧
        ((s.2.1 < 0 ∧ k = 0) ∨ ∃ u : Nat, s.2.1 = u ∧ u < n ∧ k = d u + 1))
  refine ⟨fun s g => ∃ k, I1 s g k, rk I1, rk_wf I1, ?_, ?_⟩
  · exact ⟨_, st, L, pd, f, Kp.refl, I, .inl ⟨rfl, rfl, rfl⟩⟩
  · intro last u' g hI
    obtain ⟨st1, L1, pd1, fz, kp, J, hc⟩ := mu_spec hI
    generalize hkk : mu I1 ((last, u', ()), g) = k at *
    refine ifP_of (fun h0 => ?_) (fun h0 => ?_)
    · have h0 := of_decide_eq_true h0
      obtain ⟨u, hu', hu, hk⟩ : ∃ u : Nat, u' = u ∧ u < n ∧ k = d u + 1 := by
        rcases hc with ⟨_, h1, h2⟩ | ⟨x, _, _, _, _, _, h1 | h1⟩
        · exact ⟨v, h1, hv, h2⟩
        · have := h1.1; simp only [] at this; omega
        · exact h1
      subst hu'
      refine (splay_T fz J Fo hn hu).mono ?_
      rintro _ g1 ⟨rfl, st2, L2, pd2, fz2, kp2, R⟩
      refine ⟨rfl, nd fz2.hd hu ⟨fz2.wr hu (by decide), ?_⟩⟩
      rw [fz2.set hu (by decide)]
      -- what hangs on the right now
      have hcase : last = -1 ∧ u = v ∨ ∃ x : Nat, last = x ∧ x < n ∧ Top st2 x ∧ st2 x 2 = u ∧ x ≠ u ∧ (L2 x).getLast? = some v := by
        rcases hc with ⟨h1, h2, _⟩ | ⟨x, h1, hx, hT, h2, h3, _⟩
        · simp only [] at h1 h2
          exact .inl ⟨h1, by omega⟩
        · simp only [] at h1 h2
          right
          obtain ⟨a, l, e1, e2⟩ := J.hd x hx hT
          have ha : a < n := J.lt x hx a (by rw [e1]; simp)
          have hda := hd a u ha (by rw [e2, h2])
          have hux : u ∉ L1 x := fun hm => by
            have := J.head_d hd hx e1 u hm
            omega
          obtain ⟨b1, b2, b3⟩ := R.fr x hx hT hux
          refine ⟨x, h1, hx, b1, by rw [b2, h2], ?_, by rw [b3]; exact h3⟩
          rintro rfl
          exact hux (J.self hx)
      have hcc : last = -1 ∨ ∃ x : Nat, last = x ∧ x < n ∧ Top st2 x ∧ st2 x 2 = u ∧ x ≠ u := by
        rcases hcase with h | ⟨x, a1, a2, a3, a4, a5, _⟩
        · exact .inl h.1
        · exact .inr ⟨x, a1, a2, a3, a4, a5⟩
      have pcl : Pc n u last := by
        rcases hcc with h | ⟨x, a1, a2, a3, a4, a5⟩
        · exact .inl (by omega)
        · exact .inr ⟨x, a1, a2, a5⟩
      refine (pull_A fz2.next hu ?_ ?_).mono ?_
      · have : upd2 st2 u 1 last u 0 = st2 u 0 := by unfold upd2; rw [if_neg (by omega)]
        rw [this]; exact pc_of R.inv hu (by decide)
      · have : upd2 st2 u 1 last u 1 = last := by unfold upd2; rw [if_pos ⟨rfl, rfl⟩]
        rw [this]; exact pcl
      rintro _ _ ⟨rfl, rfl⟩
      rw [fp_fp]
      show _ ∧ _
      refine ⟨rfl, ?_⟩
      have hg : pullS (upd2 st2 u 1 last) u = hang st2 u last := rfl
      rw [hg]
      obtain ⟨J3, T3⟩ := R.inv.hang_ Fo hu R.top R.a0 R.p0 hcc
      generalize hL3 : (fun w => if w = u then LL L2 (st2 u 0) ++ u :: LL L2 last else L2 w) = L3 at J3
      generalize (fun w => if Ch st2 u w then (0 : Int) else pd2 w) = pd3 at J3
      have fz3 : Fz (fp g1 bn e n 6 (hang st2 u last)) bf bn e n (hang st2 u last) := fz2.next
      refine nd fz3.hd hu ⟨_, fz3.ld hu (by decide), ?_⟩
      have e2 : hang st2 u last u 2 = st2 u 2 := by rw [hang_eq, if_neg (by omega), if_neg (by omega)]
      have hlast : (L3 u).getLast? = some v := by
        rw [← hL3]
        show (if u = u then LL L2 (st2 u 0) ++ u :: LL L2 last else L2 u).getLast? = some v
        rw [if_pos rfl]
        rcases hcase with ⟨rfl, rfl⟩ | ⟨x, rfl, _, _, _, _, h6⟩
        · simp [LL_neg]
        · rw [LL_nat, List.getLast?_append, List.getLast?_cons, h6]; rfl
      have upn := J3.up u hu
      refine mu_next (I := I1) (k := if 0 ≤ hang st2 u last u 2 then d (hang st2 u last u 2).toNat + 1 else 0)
        ⟨_, L3, pd3, fz3, (kp.trans kp2).trans Kp.fp, J3, .inr ⟨u, rfl, hu, T3, rfl, hlast, ?_⟩⟩ ?_
      · rcases upn with h1 | ⟨y, h1, hy⟩
        · exact .inl ⟨h1, if_neg (by omega)⟩
        · right
          refine ⟨y, h1, hy, ?_⟩
          show (if 0 ≤ hang st2 u last u 2 then d (hang st2 u last u 2).toNat + 1 else 0) = _
          rw [h1, if_pos (by omega), Int.toNat_natCast]
      · rw [hkk, hk]
        rcases upn with h1 | ⟨y, h1, hy⟩
        · rw [if_neg (by omega)]; omega
        · rw [h1, if_pos (by omega), Int.toNat_natCast]
          obtain ⟨a, l, e3, e4⟩ := J3.hd u hu T3
          have ha : a < n := J3.lt u hu a (by rw [e3]; simp)
          have h2 := hd a y ha (by rw [e4]; exact h1)
          have h3 := J3.head_d hd hu e3 u (J3.self hu)
          omega
    · have h0 := of_decide_eq_false h0
      obtain ⟨x, hx, hT, h2, h3⟩ : ∃ x : Nat, x < n ∧ Top st1 x ∧ st1 x 2 < 0 ∧ (L1 x).getLast? = some v := by
        rcases hc with ⟨_, h1, _⟩ | ⟨x, _, hx, hT, h2, h3, _⟩
        · simp only [] at h1; omega
        · simp only [] at h2
          exact ⟨x, hx, hT, by omega, h3⟩
      refine (splay_T fz J Fo hn hv).mono ?_
      rintro _ g1 ⟨rfl, st2, L2, pd2, fz2, kp2, R⟩
      refine ⟨rfl, rfl, st2, L2, pd2, fz2, kp.trans kp2, ?_⟩
      obtain ⟨t, ht, hTt, hvt, hL, hup⟩ := R.way
      have hvx : v ∈ L1 x := List.mem_of_getLast? h3
      have etx : t = x := by
        rcases J.cmp hx t ht v hvt hvx with h | h
        · exact J.top_of_mem hx h hTt
        · exact (J.top_of_mem ht h hT).symm
      subst etx
      have hl : (L2 v).getLast? = some v := by rw [hL]; exact h3
      have hn2 : st2 v 2 < 0 := by rw [hup]; exact h2
      exact ⟨R.inv, R.top, head_neg R.inv Fo hv R.top hn2, last_rt R.inv Fo hv hl, hl, R.a0, R.p0⟩

/-- The root r of v's tree on top of the way to v. -/
structure RootR (n : Nat) (st : St) (L : Nat → List Nat) (par tv pd : Nat → Int) (r v : Nat) : Prop where
  inv : Inv n st L par tv pd
  rn : r < n
  top : Top st r
  up : st r 2 = -1
  lf : st r 0 < 0
  head : (L r).head? = some r
  last : (L r).getLast? = some v
  a0 : st r 5 = 0
  p0 : pd r = 0
  root : par r = -1

theorem root_T (f : Fz h bf bn e n st) (I : Inv n st L par tv pd) (Fo : Fst n par tv) (hn : n ≤ 1024) {v : Nat} (hv : v < n) :
    T Try.prog F.links_Forest_root [fo bf, vi v] h fun r h' => ∃ x : Nat, r = .ret (vi x) ∧
      ∃ st' L' pd', Fz h' bf bn e n st' ∧ Kp bn h h' ∧ RootR n st' L' par tv pd' x v := by
  refine E_links_Forest_root ?_
  unfold B_links_Forest_root
  refine (access_T f I Fo hn hv).mono ?_
  rintro _ g ⟨rfl, st1, L1, pd1, fz1, kp1, A⟩
  refine ⟨rfl, ?_⟩
  let I3 : (Int × Unit) → H → Nat → Prop := fun s g2 k =>
    ∃ st2 pd2, ∃ w : Nat, s.1 = w ∧ w < n ∧ Fz g2 bf bn e n st2 ∧ Kp bn h g2 ∧ Inv n st2 L1 par tv pd2 ∧ (∀ x j, j < 3 → st2 x j = st1 x j) ∧
      w ∈ L1 v ∧ (L1 w).head? = (L1 v).head? ∧ k = (L1 w).length
  refine ⟨fun s g2 => ∃ k, I3 s g2 k, rk I3, rk_wf I3, ?_, ?_⟩
  · exact ⟨_, st1, pd1, v, rfl, hv, fz1, kp1, A.inv, fun _ _ _ => rfl, A.inv.self hv, rfl, rfl⟩
  · intro w' g2 hI
    obtain ⟨st2, pd2, w, hw', hw, fz2, kp2, J, lk, hwv, hh, hk⟩ := mu_spec hI
    generalize hkk : mu I3 ((w', ()), g2) = k at *
    change w' = (w : Int) at hw'
    subst hw'
    refine (push_A fz2 hw (pt_of J hw (by decide)) (pt_of J hw (by decide))).mono ?_
    rintro _ _ ⟨rfl, rfl⟩
    refine ⟨rfl, ?_⟩
    have J3 := J.push Fo hw
    have fz3 : Fz (fp g2 bn e n 6 (pushS st2 w)) bf bn e n (pushS st2 w) := fz2.next
    have lk3 : ∀ x j, j < 3 → pushS st2 w x j = st1 x j := fun x j hj => by rw [pushS_link J Fo hw x hj, lk x j hj]
    refine nd fz3.hd hw ⟨_, fz3.ld hw (by decide), ?_⟩
    refine ifP_of (fun h0 => ?_) (fun h0 => ?_)
    · have h0 := of_decide_eq_true h0
      refine (splay_T fz3 J3 Fo hn hw).mono ?_
      rintro _ g4 ⟨rfl, st4, L4, pd4, fz4, kp4, R⟩
      refine ⟨rfl, w, rfl, st4, L4, pd4, fz4, (kp2.trans Kp.fp).trans kp4, ?_⟩
      obtain ⟨t, ht, hTt, hwt, hL, hup⟩ := R.way
      have hTv : Top (pushS st2 w) v := (Top.congr lk3).2 A.top
      have etv : t = v := by
        rcases J3.cmp hv t ht w hwt hwv with h | h
        · exact J3.top_of_mem hv h hTt
        · exact (J3.top_of_mem ht h hTv).symm
      subst etv
      have hhead : (L4 w).head? = some w := by
        rw [hL, ← hh, J3.ino w hw, LL_neg h0]; rfl
      have up4 : st4 w 2 = -1 := by rw [hup, lk3 _ _ (by decide)]; exact A.up
      refine ⟨R.inv, hw, R.top, up4, first_lf R.inv Fo hw hhead, hhead, by rw [hL]; exact A.last, R.a0, R.p0, ?_⟩
      obtain ⟨a, l, e1, e2⟩ := R.inv.hd w hw R.top
      rw [e1] at hhead
      simp at hhead
      subst hhead
      rw [e2, up4]
    · have h0 := of_decide_eq_false h0
      refine nd fz3.hd hw ⟨_, fz3.ld hw (by decide), ?_⟩
      obtain ⟨c, hc⟩ : ∃ c : Nat, pushS st2 w w 0 = c := ⟨(pushS st2 w w 0).toNat, by omega⟩
      have hcc : Ch (pushS st2 w) w c := .inl hc
      have hcn := (J3.ch w c hw hcc).1
      refine mu_next (I := I3) (k := (L1 c).length) ⟨_, _, c, hc, hcn, fz3, kp2.trans Kp.fp, J3, lk3, J3.mtrans v hv w hwv c (J3.sub hw hcc (J3.self hcn)), ?_, rfl⟩ ?_
      · rw [← hh]
        conv => rhs; rw [J3.ino w hw, hc, LL_nat]
        cases hl : L1 c with
        | nil => have := J3.self hcn; rw [hl] at this; cases this
        | cons a l => rfl
      · rw [hkk, hk]
        exact J3.len hw hcc

end
end Go.Proofs.Ytgbmkfifjijoiaa
