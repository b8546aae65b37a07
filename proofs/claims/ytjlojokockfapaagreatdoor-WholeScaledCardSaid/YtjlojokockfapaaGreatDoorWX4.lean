import Ieee.Arith
import Derived.Laws.Externs
import Derived.Laws.FloatArith
import Derived.Lib.TrailingZeros
import Derived.Test.YtjlojokockfapaaGreatDoorWX3
namespace Go.Proofs.YtjlojokockfapaaGreatDoor
open Go
open Classical
set_option linter.unusedVariables false
set_option linter.unusedSimpArgs false

/-- The task's numbers. -/
structure EvP (n m : Nat) (fr to : Nat → Nat) (cap b : Nat → Int) : Prop where
  n1 : n ≤ 1024
  m1 : m ≤ 4096
  e : ∀ i, i < m → fr i < n ∧ to i < n
  cp : ∀ i, i < m → 0 ≤ cap i ∧ cap i ≤ 1048576
  bb : ∀ v, v < n → -1048576 ≤ b v ∧ b v ≤ 1048576
  s0 : sumN n b = 0
/-- The net, its rooms right, what is still too much right. -/
structure MS (own : Own) (h : H) (bn n m : Nat) (fr to : Nat → Nat) (cap b cost room ex pot : Nat → Int) : Prop where
  net : MN own h bn n m fr to room cost ex pot
  rm : RmP m cap room
  bal : ∀ v, v < n → ex v + OutF m fr to (onR room) v = b v
section
variable {own own' : Own} {h h' : H} {bn n m : Nat} {fr to : Nat → Nat} {cap b cost room ex pot : Nat → Int} {M : List Nat}
theorem RmP.rb (R : RmP m cap room) (hc : ∀ i, i < m → cap i ≤ 1048576) {a : Nat} (ha : a < 2 * m) : 0 ≤ room a ∧ room a ≤ 1048576 := by
  have := R.pos a ha
  have := R.pos _ (prA_lt ha)
  have := R.pr ha
  have := hc (a / 2) (by omega)
  omega
theorem RmP.onb (R : RmP m cap room) (hc : ∀ i, i < m → cap i ≤ 1048576) : ∀ i, i < m → 0 ≤ onR room i ∧ onR room i ≤ 1048576 := fun i hi => R.rb hc (a := 2 * i + 1) (by omega)
theorem MS.fm (S : MS own h bn n m fr to cap b cost room ex pot) (F : Fm M own h own' h') (hM : ∀ i, i ∈ M → 8 < i ∧ i < 40) : MS own' h' bn n m fr to cap b cost room ex pot := ⟨S.net.fm F hM, S.rm, S.bal⟩
theorem MS.ext (S : MS own h bn n m fr to cap b cost room ex pot) (x : Ext h h') : MS own h' bn n m fr to cap b cost room ex pot := ⟨S.net.ext x, S.rm, S.bal⟩
theorem MS.exb (S : MS own h bn n m fr to cap b cost room ex pot) (E : EvP n m fr to cap b) {v : Nat} (hv : v < n) : -8589934592 ≤ ex v ∧ ex v ≤ 8589934592 := by
  have := S.bal v hv
  have := E.bb v hv
  have := out_bd (fr := fr) (to := to) (S.rm.onb fun i hi => (E.cp i hi).2) E.m1 v
  omega
theorem MS.rb (S : MS own h bn n m fr to cap b cost room ex pot) (E : EvP n m fr to cap b) {a : Nat} (ha : a < 2 * m) : 0 ≤ room a ∧ room a ≤ 1048576 := S.rm.rb (fun i hi => (E.cp i hi).2) ha
theorem MS.sum0 (S : MS own h bn n m fr to cap b cost room ex pot) (E : EvP n m fr to cap b) : sumN n ex = 0 := by
  have e1 : sumN n ex = sumN n fun v => b v - OutF m fr to (onR room) v := sumN_congr fun v hv => by have := S.bal v hv; omega
  rw [e1, sumN_sub, E.s0, out_all E.e]; rfl
theorem MS.done (S : MS own h bn n m fr to cap b cost room ex pot) (E : EvP n m fr to cap b) (no : ¬ ∃ v, v < n ∧ 0 < ex v) : ∀ v, v < n → ex v = 0 := by
  have h1 : ∀ v, v < n → 0 ≤ - ex v := fun v hv => by
    apply Classical.byContradiction
    intro h
    exact no ⟨v, hv, by omega⟩
  have e : sumN n (fun v => - ex v) = 0 := by
    have := sumN_sub (f := fun _ => 0) (g := ex) (k := n)
    rw [sumN_zero fun _ _ => rfl, S.sum0 E] at this
    rw [show (fun v => - ex v) = fun v => 0 - ex v by funext v; omega, this]; rfl
  intro v hv
  have := sumN_all0 h1 (by omega) v hv
  omega
theorem MS.send (S : MS own h bn n m fr to cap b cost room ex pot) (E : EvP n m fr to cap b) {a : Nat} {x : Int} (ha : a < 2 * m) (h0 : 0 ≤ x) (h1 : x ≤ room a) :
    T Tryz.prog F.mincost_net_send [.pointer (some (bk bn)), .int .i64 a, .int .i64 x] h fun r h' => r = .ret (.tuple ⟨[]⟩) ∧ Fm [3, 6] own h own h' ∧
      MS own h' bn n m fr to cap b cost (sndR room a x) (exS ex (tlA fr to a) (hdA fr to a) x) pot := by
  have ra := S.rb E ha
  refine (msend_T S.net E.m1 E.e ha (fun c hc => by have := S.rb E hc; omega) (by omega) (fun v hv => by have := S.exb E hv; omega)).mono ?_
  rintro _ q ⟨rfl, F, N⟩
  refine ⟨rfl, F, N, S.rm.snd ha h0 h1, fun v hv => ?_⟩
  have := S.bal v hv
  rw [out_snd ha]
  unfold exS
  omega
/-- The side where what is too much can't leave. -/
theorem MS.lack (S : MS own h bn n m fr to cap b cost room ex pot) (E : EvP n m fr to cap b) {sd : Nat → Bool} (hsd : ∀ v, v < n → (sd v = true ↔ ∃ u, u < n ∧ 0 < ex u ∧ Rch (ArS m fr to room) u v))
    (no : ∀ u v, u < n → 0 < ex u → Rch (ArS m fr to room) u v → 0 ≤ ex v) (some_ : ∃ v, v < n ∧ 0 < ex v) : cutC m fr to cap (fun v => sd v = true) < sumN n fun v => if sd v = true then b v else 0 := by
  obtain ⟨v, hv, hx⟩ := some_
  refine Int.lt_of_lt_of_le (S.rm.lack (b := b) E.e (C := fun v => sd v = true) (fun a ha hr hs => ?_) (fun w hw hs => ?_) hv ((hsd v hv).2 ⟨v, hv, hx, .refl⟩) (by have := S.bal v hv; omega)) (Int.le_of_eq (sumN_congr fun v _ => by by_cases h : sd v = true <;> simp [h]))
  · obtain ⟨u, hu, hxu, r⟩ := (hsd _ (tl_lt E.e ha)).1 hs
    exact (hsd _ (hd_lt E.e ha)).2 ⟨u, hu, hxu, r.step ⟨a, ha, rfl, rfl, hr⟩⟩
  · obtain ⟨u, hu, hxu, r⟩ := (hsd w hw).1 hs
    have := no u w hu hxu r
    have := S.bal w hw; omega
/-- How much there is too much. -/
def posS (n : Nat) (ex : Nat → Int) : Int := sumN n fun v => if 0 < ex v then ex v else 0
theorem posS_nn : 0 ≤ posS n ex := sumN_nonneg fun v _ => by split <;> omega
theorem posS_carry {ex' : Nat → Int} {u w : Nat} {x : Int} (hu : u < n) (hx : x ≤ ex u) (h0 : 0 < x) (hw : ex w ≤ - x) (he : ∀ v, ex' v = ex v + (if v = w then x else 0) - (if v = u then x else 0)) : posS n ex' = posS n ex - x := by
  have e : posS n ex' = sumN n fun v => (if 0 < ex v then ex v else 0) - (if u = v then x else 0) := sumN_congr fun v _ => by
    have ne : w ≠ u := by rintro rfl; omega
    rw [he v]
    by_cases e1 : v = u
    · subst e1
      rw [if_neg (fun h : v = w => ne h.symm), if_pos rfl]
      split <;> split <;> omega
    · rw [if_neg e1, if_neg (fun h : u = v => e1 h.symm)]
      by_cases e2 : v = w
      · subst e2
        rw [if_pos rfl]
        split <;> split <;> omega
      · rw [if_neg e2]
        simp
  rw [e, sumN_sub, sumN_pt, if_pos hu]; rfl
theorem Fm.newT {b c i : Nat} (x : Ext h h') (hb : h b = none) (hc : h c = none) : Fm M own h (own1 (own1 own b i) c i) h' :=
  ⟨fun d o e _ => x d o e, fun d o e => ⟨⟨o, x d o e⟩, by
    rw [own1_ne (by rintro rfl; rw [hc] at e; cases e), own1_ne (by rintro rfl; rw [hb] at e; cases e)]⟩⟩
theorem Fm.none {b : Nat} (F : Fm M own h own' h') (hb : h' b = none) : h b = none := by
  cases e : h b with
  | none => rfl
  | some o => obtain ⟨⟨o', e'⟩, _⟩ := F.stay b o e; rw [hb] at e'; cases e'
theorem S1.of2 {b c i : Nat} {v : Value} {vs : List Value} (s : Sl h b v vs) (own : Own) : S1 (own1 (own1 own b i) c i) h i v vs :=
  .inr ⟨b, by unfold own1; split; rfl; exact if_pos rfl, s⟩
theorem redC_pr {a : Nat} (hc : cost (prA a) = - cost a) (ha : a < 2 * m) : redC fr to cost pot (prA a) = - redC fr to cost pot a := by
  unfold redC
  rw [hc, tl_pr, hd_pr]; omega
end

end Go.Proofs.YtjlojokockfapaaGreatDoor

namespace Go.Proofs.YtjlojokockfapaaGreatDoor
open Go
open Classical
set_option linter.unusedVariables false
set_option linter.unusedSimpArgs false

/-- The panic of what can't be met, with the side that proves it. -/
def LackA (h : H) (n m : Nat) (fr to : Nat → Nat) (cap b : Nat → Int) (r : Res) (h' : H) : Prop :=
  ∃ (bs : Nat) (sd : Nat → Bool), r = .pan (.iface 73 (.agg ⟨[slV bs n]⟩)) ∧ h bs = none ∧ Sl h' bs (slV bs n) (bools n sd) ∧ cutC m fr to cap (fun v => sd v = true) < sumN n fun v => if sd v = true then b v else 0
/-- What ways.meet ends with. -/
def MeetA (M : List Nat) (own : Own) (h : H) (bn n m : Nat) (fr to : Nat → Nat) (cap b cost : Nat → Int) (r : Res) (h' : H) : Prop :=
  ∃ own', Fm M own h own' h' ∧ ((r = .ret (.tuple ⟨[]⟩) ∧ ∃ room' ex' pot', MS own' h' bn n m fr to cap b cost room' ex' pot' ∧ (∀ v, v < n → ex' v = 0) ∧
    (∀ a, a < 2 * m → 0 < room' a → 0 ≤ redC fr to cost pot' a) ∧ ∀ v, v < n → -1073741824 ≤ pot' v ∧ pot' v ≤ 1073741824) ∨ LackA h n m fr to cap b r h')
section
variable {own own' : Own} {h h' : H} {bn n m : Nat} {fr to : Nat → Nat} {cap b k cost room ex pot : Nat → Int} {M : List Nat}
theorem ways_T (S : MS own h bn n m fr to cap b cost room ex pot) (E : EvP n m fr to cap b) (hk : ∀ i, i < m → -1048576 ≤ k i ∧ k i ≤ 1048576) (hcost : ∀ a, a < 2 * m → cost a = cA k a)
    (r0 : ∀ i, i < m → room (2 * i + 1) = 0) (p0 : ∀ v, v < n → pot v = 0) :
    T Tryz.prog F.mincost_ways_meet [.agg ⟨[.pointer (some (bk bn))]⟩] h (MeetA [3, 6, 7, 20, 21, 22] own h bn n m fr to cap b cost) := by
  have hm1 := E.m1
  have hn1 := E.n1
  have hcb : ∀ a, a < 2 * m → -1048576 ≤ cost a ∧ cost a ≤ 1048576 := fun a ha => by rw [hcost a ha]; exact cA_bd hk ha
  have hcpr : ∀ a, a < 2 * m → cost (prA a) = - cost a := fun a ha => by rw [hcost a ha, hcost _ (prA_lt ha), cA_pr]
  refine E_mincost_ways_meet ?_
  unfold B_mincost_ways_meet
  refine new_bl ?_
  intro b1 q1 hb1 x1 B1_
  have C1 : B1 (own1 own b1 9) q1 9 b1 [.pointer (some (bk bn))] := B1.new B1_
  have F1 : Fm [3, 6, 7] own h (own1 own b1 9) q1 := Fm.new x1 hb1
  have S : MS (own1 own b1 9) q1 bn n m fr to cap b cost room ex pot := ⟨S.net.nw x1 hb1, S.rm, S.bal⟩
  generalize own1 own b1 9 = ow at *
  let I : (Int × Unit) → H → Nat → Prop := fun p q z => ∃ (i : Nat) (room' ex' : Nat → Int), p.1 = ((2 * i : Nat) : Int) ∧ i ≤ m ∧ z = m - i ∧ Fm [3, 6, 7] own h ow q ∧ MS ow q bn n m fr to cap b cost room' ex' pot ∧ B1 ow q 9 b1 [.pointer (some (bk bn))] ∧
    (∀ j, j < i → (0 < room' (2 * j) → 0 ≤ k j) ∧ (0 < room' (2 * j + 1) → k j < 0)) ∧ ∀ j, i ≤ j → j < m → room' (2 * j + 1) = 0
  refine ⟨fun p q => ∃ k, I p q k, rk I, rk_wf I, ⟨_, 0, room, ex, rfl, by omega, rfl, F1, S, C1, fun j hj => by omega, fun j _ hj => r0 j hj⟩, ?_⟩
  clear S C1 F1
  intro p q hI
  obtain ⟨i, room', ex', e1, hi, hz, F0, S, C1, hd, hr⟩ := mu_spec hI
  generalize hkk : mu I ((p, ()), q) = km at *
  change p = ((2 * i : Nat) : Int) at e1
  subst e1
  have hlt : i < m → m - (i + 1) < mu I ((((2 * i : Nat) : Int), ()), q) := fun h => by rw [hkk, hz]; omega
  clear hI
  obtain ⟨vf, vt, vr, vc, vo, vx, vp, outs, k8, k1, k2, k3, k4, k5, k6, k7, ko⟩ := S.net.q
  refine ⟨_, C1.ld0 rfl, ptrP_mk ⟨_, k8.ld rfl, k2.len (ints_length _ _) fun _ _ => ifP_of (fun h1 => ?_) (fun h1 => ?_)⟩⟩
  · have him : i < m := by have := of_decide_eq_true h1; omega
    have ew : IntKind.i64.wrap (((2 * i : Nat) : Int) + 2) = ((2 * (i + 1) : Nat) : Int) := by
      rw [show ((2 * i : Nat) : Int) + 2 = ((2 * (i + 1) : Nat) : Int) by omega]; exact w64_in (by omega) (by omega)
    rw [ew]
    refine ⟨_, C1.ld0 rfl, ptrP_mk ⟨_, k8.ld rfl, k4.rdI (show 2 * i < 2 * m by omega) ?_⟩⟩
    rw [hcost _ (by omega), cA_0]
    refine ifP_of (fun h2 => ?_) (fun h2 => ?_)
    · have h2 := of_decide_eq_true h2
      refine ⟨_, C1.ld0 rfl, _, C1.ld0 rfl, ptrP_mk ⟨_, k8.ld rfl, k3.rdI (show 2 * i < 2 * m by omega) ?_⟩⟩
      have hr0 := S.rm.pos (2 * i) (by omega)
      refine (S.send E (a := 2 * i) (by omega) hr0 (Int.le_refl _)).mono ?_
      rintro _ q2 ⟨rfl, F1, S⟩
      have C1 := C1.fm F1 (by simp <;> omega)
      refine rt_ret ⟨rfl, mu_next (I := I) (k := m - (i + 1)) ⟨i + 1, _, _, rfl, him, rfl, F0.trans (F1.mono (by simp)), S, C1, fun j hj => ?_, fun j h3 h4 => ?_⟩ (hlt him)⟩
      · have ep : prA (2 * i) = 2 * i + 1 := by unfold prA; rw [if_pos (by omega)]
        by_cases e : j = i
        · subst e
          refine ⟨fun h => ?_, fun _ => h2⟩
          rw [sndR_a] at h; omega
        · rw [sndR_o (by omega) (by rw [ep]; omega), sndR_o (by omega) (by rw [ep]; omega)]
          exact hd j (by omega)
      · have ep : prA (2 * i) = 2 * i + 1 := by unfold prA; rw [if_pos (by omega)]
        rw [sndR_o (by omega) (by rw [ep]; omega)]
        exact hr j (by omega) h4
    · have h2 := of_decide_eq_false h2
      refine mu_next (I := I) (k := m - (i + 1)) ⟨i + 1, _, _, rfl, him, rfl, F0, S, C1, fun j hj => ?_, fun j h3 h4 => hr j (by omega) h4⟩ (hlt him)
      by_cases e : j = i
      · subst e
        refine ⟨fun _ => by omega, fun h => ?_⟩
        rw [hr j (Nat.le_refl _) him] at h; omega
      · exact hd j (by omega)
  have : i = m := by have := of_decide_eq_false h1; omega
  subst this
  clear hlt hkk hz h1 hr k1 k2 k3 k4 k5 k6 k7 k8 ko
  have red0 : ∀ a, a < 2 * i → 0 < room' a → 0 ≤ redC fr to cost pot a := fun a ha h => by
    unfold redC
    rw [p0 _ (tl_lt E.e ha), p0 _ (hd_lt E.e ha), hcost a ha]
    obtain ⟨d1, d2⟩ := hd (a / 2) (by omega)
    by_cases e : a % 2 = 0
    · rw [show 2 * (a / 2) = a by omega] at d1
      unfold cA
      rw [if_pos e]
      have := d1 h; omega
    · rw [show 2 * (a / 2) + 1 = a by omega] at d2
      unfold cA
      rw [if_neg e]
      have := d2 h; omega
  let I2 : Unit → H → Nat → Prop := fun _ q z => ∃ (ow : Own) (room' ex' pot' : Nat → Int) (Dm : Int), z = (posS n ex').toNat ∧ Fm [3, 6, 7] own h ow q ∧ MS ow q bn n i fr to cap b cost room' ex' pot' ∧ B1 ow q 9 b1 [.pointer (some (bk bn))] ∧
    (∀ a, a < 2 * i → 0 < room' a → 0 ≤ redC fr to cost pot' a) ∧ (∀ v, v < n → 0 < ex' v → pot' v = 0) ∧ (∀ v, v < n → ex' v < 0 → pot' v = Dm) ∧ (∀ v, v < n → 0 ≤ pot' v ∧ pot' v ≤ Dm) ∧ 0 ≤ Dm ∧ Dm ≤ n * 1048576
  refine ⟨fun p q => ∃ k, I2 p q k, rk I2, rk_wf I2, ⟨_, ow, room', ex', pot, 0, rfl, F0, S, C1, red0, fun v hv _ => p0 v hv, fun v hv _ => p0 v hv, fun v hv => by rw [p0 v hv]; omega, by omega, by omega⟩, ?_⟩
  clear F0 S C1 red0 hd p0 r0
  intro q hI
  obtain ⟨ow, room', ex', pot', Dm, hz, F0, S, C1, red, pp, pm, pb, D0, D1⟩ := mu_spec hI
  generalize hkk : mu I2 ((), q) = km at *
  clear hI
  refine C1.ldN rfl ((missing_T S.net E.n1).mono ?_)
  rintro _ q2 ⟨⟨t, rfl, ht⟩, x2⟩
  have F0 := F0.trans (Fm.of_ext x2)
  have S := S.ext x2
  have C1 := C1.ext x2
  refine rt_ret ⟨_, rfl, ifP_of (fun h1 => ?_) (fun h1 => ?_)⟩
  rotate_left
  · have no : ¬ ∃ v, v < n ∧ 0 < ex' v := fun h => by rw [ht.2 h] at h1; cases h1
    exact ⟨ow, F0.mono (by simp), .inl ⟨rfl, room', ex', pot', S, S.done E no, red, fun v hv => by have := pb v hv; omega⟩⟩
  have hsome := ht.1 h1
  refine C1.ldN rfl ((cheapest_T S.net E.e hn1 hm1 (fun a ha => S.rm.pos a ha) hcb (fun v hv => by have := pb v hv; omega) red pp).mono ?_)
  rintro _ q3 ⟨bd, bv, dist, via, fnd, rfl, x3, hbd, hbv, sD, sV, J⟩
  have F3 : Fm [] ow q2 (own1 (own1 ow bd 20) bv 20) q3 := Fm.newT x3 hbd hbv
  have kD := S1.of2 (c := bv) (i := 20) sD ow
  have kV : S1 (own1 (own1 ow bd 20) bv 20) q3 20 (slV bv n) (ints n via) := S1.of sV _
  have S := S.fm F3 (by simp)
  have C1 := C1.fm F3 (by simp <;> omega)
  have F0 := F0.trans (F3.mono (by simp))
  generalize own1 (own1 ow bd 20) bv 20 = ow3 at *
  clear F3 sD sV hbd hbv x3 x2 ht
  refine rt_ret ⟨_, _, _, rfl, fun _ q => q = q3 ∧ 0 ≤ fnd, ?_, ?_⟩
  · refine ifP_of (fun h2 => ?_) (fun h2 => ⟨rfl, by have := of_decide_eq_false h2; omega⟩)
    have h2 := of_decide_eq_true h2
    refine ⟨_, C1.ld0 rfl, (reached_T S.net E.e hn1 hm1).mono ?_⟩
    rintro _ q4 ⟨bs, sd, rfl, hbs, x4, sS, hsd⟩
    exact rt_ret (oneP_mk ⟨ow3, (F0.trans (Fm.of_ext x4)).mono (by simp), .inr ⟨bs, sd, rfl, F0.none hbs, sS, S.lack E hsd (J.no h2) hsome⟩⟩)
  rintro q3 ⟨rfl, hf0⟩
  obtain ⟨f, rfl, fn, fx, fb, fm, fr_, y, L, y0, W, yL, tight⟩ := J.yes hf0
  have hjf := J.pos f fn
  let I4 : (Int × Unit) → H → Nat → Prop := fun p q z => ∃ (s : Nat) (pot2 : Nat → Int), p.1 = s ∧ s ≤ n ∧ z = n - s ∧ Fm [7] ow3 q3 ow3 q ∧ MS ow3 q bn n i fr to cap b cost room' ex' pot2 ∧ ∀ v, pot2 v = if v < s then pot' v + mnd dist f v else pot' v
  refine ⟨fun p q => ∃ k, I4 p q k, rk I4, rk_wf I4, ⟨_, 0, pot', rfl, by omega, rfl, Fm.refl, S, fun v => by simp⟩, ?_⟩
  clear S
  intro p q4 hI
  obtain ⟨s, pot2, e1, hs, hz2, F4, S, hp2⟩ := mu_spec hI
  generalize hkk2 : mu I4 ((p, ()), q4) = km2 at *
  change p = (s : Int) at e1
  subst e1
  have hlt2 : s < n → n - (s + 1) < mu I4 (((s : Int), ()), q4) := fun h => by rw [hkk2, hz2]; omega
  clear hI
  have C2 := C1.fm F4 (by simp)
  have kD2 := kD.fm F4 (by simp)
  have kV2 := kV.fm F4 (by simp)
  refine ifP_of (fun h2 => ?_) (fun h2 => ?_)
  · have hsn : s < n := by have := of_decide_eq_true h2; omega
    obtain ⟨vf, vt, vr, vc, vo, vx, vp, outs, k8, k1, k2, k3, k4, k5, k6, k7, ko⟩ := S.net.q
    rw [i64_inc (by omega)]
    refine kD2.rdI hsn (kD2.at (ints_get fn) fun a57 ha57 => ⟨_, C2.ld0 rfl, ptrP_mk ⟨_, k8.ld rfl, k7.rdI hsn ⟨_, ha57, k7.setI hsn fun g F5 k7 => ?_⟩⟩⟩)
    have ps := pb s hsn
    have pf0 := pb f fn
    have hjs := J.pos s hsn
    have e2 : pot2 s = pot' s := by rw [hp2 s, if_neg (by omega)]
    have ew : IntKind.i64.wrap (pot2 s + (if dist f < dist s then dist f else dist s)) = pot' s + mnd dist f s := by
      rw [e2]; exact w64_in (by split <;> omega) (by split <;> omega)
    rw [ew] at k7
    have k1 := k1.fm F5 (by simp <;> omega)
    have k2 := k2.fm F5 (by simp <;> omega)
    have k3 := k3.fm F5 (by simp <;> omega)
    have k4 := k4.fm F5 (by simp <;> omega)
    have k5 := k5.fm F5 (by simp <;> omega)
    have k6 := k6.fm F5 (by simp <;> omega)
    have k8 := k8.fm F5 (by simp <;> omega)
    have ko := fun v hv => (ko v hv).fm F5 (by simp; omega)
    refine mu_next (I := I4) (k := n - (s + 1)) ⟨s + 1, _, rfl, hsn, rfl, F4.trans F5, ⟨⟨vf, vt, vr, vc, vo, vx, vp, outs, k8, k1, k2, k3, k4, k5, k6, k7, ko⟩, S.rm, S.bal⟩, fun v => ?_⟩ (hlt2 hsn)
    by_cases e : v = s
    · subst e; rw [upd_at, if_pos (by omega)]
    · rw [upd_ne e, hp2 v]
      by_cases e2 : v < s
      · rw [if_pos e2, if_pos (by omega)]
      · rw [if_neg e2, if_neg (by omega)]
  have : s = n := by have := of_decide_eq_false h2; omega
  subst this
  have hp3 : ∀ v, v < s → pot2 v = pot' v + mnd dist f v := fun v hv => by rw [hp2 v, if_pos hv]
  have er : ∀ a, a < 2 * i → redC fr to cost pot2 a = redC fr to cost (fun v => pot' v + mnd dist f v) a := fun a ha => by
    unfold redC; rw [hp3 _ (tl_lt E.e ha), hp3 _ (hd_lt E.e ha)]
  have Df := pm f fn fx
  refine ⟨_, C2.ld0 rfl, ?_⟩
  rw [← y0]
  refine (carry_T S.net E.e hm1 S.rm (fun i hi => (E.cp i hi).2) (fun v hv => by have := S.exb E hv; omega) kV2 (by omega) W (by rw [y0]; exact fx) yL).mono ?_
  rintro _ q5 ⟨rfl, x, room2, ex2, X0, X1, X2, F5, N, R, hex, hout, hnew⟩
  have S2 : MS ow3 q5 bn s i fr to cap b cost room2 ex2 pot2 := ⟨N, R, fun v hv => by have := S.bal v hv; have := hout v; omega⟩
  have C3 := C2.fm F5 (by simp)
  have posE := posS_carry (ex := ex') (ex' := ex2) (W.lt L (Nat.le_refl _)) X1 X0 (show ex' (y 0) ≤ - x by omega) hex
  have pos2 := posS_nn (n := s) (ex := ex2)
  have hmb : ∀ v, v < s → 0 ≤ mnd dist f v ∧ mnd dist f v ≤ dist f := fun v hv => by
    have := J.pos v hv
    unfold mnd; split <;> omega
  refine rt_ret ⟨rfl, mu_next (I := I2) (k := (posS s ex2).toNat) ⟨ow3, room2, ex2, pot2, Dm + dist f, rfl, (F0.trans (F4.mono (by simp))).trans (F5.mono (by simp)), S2, C3, fun a ha hr => ?_, fun v hv hx => ?_, fun v hv hx => ?_, fun v hv => ?_, by omega, by omega⟩ (by rw [hkk, hz]; omega)⟩
  · rw [er a ha]
    rcases hnew a ha hr with h | ⟨t, c, h3, h4, h5⟩
    · exact fr_ a ha h
    · obtain ⟨c', g1, g2, g3, g4, g5⟩ := W.arc t h3
      have : c' = c := by omega
      subst this
      rw [h5, redC_pr (hcpr _ g2) g2, tight t h3 _ h4]; omega
  · rw [hp3 v hv]
    have h3 : 0 < ex' v := by
      have := hex v
      by_cases e : v = y 0
      · subst e; rw [if_pos rfl] at this; split at this <;> omega
      · rw [if_neg e] at this; split at this <;> omega
    rw [pp v hv h3]
    have := J.src v hv h3
    have := hmb v hv
    unfold mnd at *
    split <;> omega
  · rw [hp3 v hv]
    have h3 : ex' v < 0 := by
      have := hex v
      by_cases e : v = y L
      · subst e; rw [if_pos rfl] at this; split at this <;> omega
      · rw [if_neg e] at this; split at this <;> omega
    rw [pm v hv h3]
    have := fm v hv h3
    unfold mnd
    split <;> omega
  · rw [hp3 v hv]
    have := pb v hv
    have := hmb v hv
    omega
end

end Go.Proofs.YtjlojokockfapaaGreatDoor

namespace Go.Proofs.YtjlojokockfapaaGreatDoor
open Go
open Classical
set_option linter.unusedVariables false
set_option linter.unusedSimpArgs false

/-- All is set to nothing. -/
theorem S1.clr {own : Own} {h : H} {i n : Nat} {v : Value} {f : Nat → Int} {K : H → Prop} (s : S1 own h i v (ints n f))
    (k : ∀ g, Fm [i] own h own g → S1 own g i v (ints n fun _ => 0) → K g) : slcP v fun a l _ => clP a l [.int .i64 0] h K := by
  have hl : (ints n f).length = n := ints_length _ _
  rcases s with ⟨e, rfl⟩ | ⟨b, hob, c, eb, zs, rfl, h2, h3⟩
  · have : n = 0 := by rw [e] at hl; simpa using hl.symm
    subst this
    exact k h Fm.refl (.inl ⟨rfl, rfl⟩)
  · rw [hl] at h3
    have ez : zrep [.int .i64 0] n = ints n fun _ => 0 := zrep_one _ _
    have hz : (ints n fun _ => 0).length = n := ints_length _ _
    show clP (some (bk b)) (ints n f).length [.int .i64 0] h K
    rw [hl]
    show hwr h (bk b) (zrep [.int .i64 0] n).length ∧ (∀ v ∈ zrep [.int .i64 0] n, v.oneCell' = true) ∧ K (hset h (bk b) (zrep [.int .i64 0] n))
    rw [ez, hz]
    refine ⟨⟨_, _, h2, rfl, ?_⟩, ?_, ?_⟩
    · simp only [List.size_toArray, List.length_append, hl]
      show 0 + n ≤ _; omega
    · intro v hv
      unfold ints at hv
      obtain ⟨j, _, rfl⟩ := List.mem_map.1 hv
      rfl
    · have e2 : hset h (bk b) (ints n fun _ => 0) b = some (.cells ⟨(ints n fun _ => 0) ++ zs⟩ eb (0, 0)) := by
        unfold hset
        rw [if_pos rfl, h2]
        simp only [Option.map_some]
        rw [setR_list _ _ _ (by simp [hl, hz, bk])]
        simp [bk, hz, hl]
      refine k _ (Fm.kp (b := b) ?_ hob ⟨_, e2⟩) (.inr ⟨b, hob, c, eb, zs, by rw [hl, hz], e2, by rw [hz]; exact h3⟩)
      intro j o hj hh
      unfold hset
      rw [if_neg hj]; exact hh
theorem sub_dec {a b : Nat} (h : b < a) : a - (b + 1) < a - b := by omega
/-- A circle with room that costs less than nothing. -/
def NegC (n m : Nat) (fr to : Nat → Nat) (room cost : Nat → Int) : Prop :=
  ∃ (y arc : Nat → Nat) (p : Nat), 1 ≤ p ∧ p ≤ n ∧ y p = y 0 ∧ (∀ s, s < p → arc s < 2 * m ∧ hdA fr to (arc s) = y s ∧ tlA fr to (arc s) = y (s + 1) ∧ 0 < room (arc s)) ∧ sumN p (fun s => cost (arc s)) < 0
/-- What turn ends with. -/
def TurnA (own : Own) (h : H) (bn n m : Nat) (fr to : Nat → Nat) (cap b cost room ex : Nat → Int) (r : Res) (h' : H) : Prop :=
  ∃ own', Fm [3, 6, 7, 20, 21, 22] own h own' h' ∧ ((r = .ret (.bool false) ∧ ∃ pot', MS own' h' bn n m fr to cap b cost room ex pot' ∧ (∀ a, a < 2 * m → 0 < room a → 0 ≤ redC fr to cost pot' a) ∧ ∀ v, v < n → -1073741824 ≤ pot' v ∧ pot' v ≤ 0) ∨
    (r = .ret (.bool true) ∧ NegC n m fr to room cost ∧ ∃ room' ex' pot', MS own' h' bn n m fr to cap b cost room' ex' pot' ∧ (∀ v, ex' v = ex v) ∧ totC m (fun i => cost (2 * i)) (onR room') < totC m (fun i => cost (2 * i)) (onR room)))
section
variable {own own' : Own} {h h' : H} {bn n m : Nat} {fr to : Nat → Nat} {cap b k cost room ex pot : Nat → Int} {M : List Nat}
theorem tri_pot {a : Nat} {d : Nat → Int} (h : d (hdA fr to a) ≤ d (tlA fr to a) + cost a) : 0 ≤ redC fr to cost d a := by unfold redC; omega
theorem turn_T (S : MS own h bn n m fr to cap b cost room ex pot) (E : EvP n m fr to cap b) (hk : ∀ i, i < m → -1048576 ≤ k i ∧ k i ≤ 1048576) (hcost : ∀ a, a < 2 * m → cost a = cA k a) :
    T Tryz.prog F.mincost_circles_turn [.agg ⟨[.pointer (some (bk bn))]⟩] h (TurnA own h bn n m fr to cap b cost room ex) := by
  have hm1 := E.m1
  have hn1 := E.n1
  have hcb : ∀ a, a < 2 * m → -1048576 ≤ cost a ∧ cost a ≤ 1048576 := fun a ha => by rw [hcost a ha]; exact cA_bd hk ha
  have hnA : ∀ a, a < 2 * m → tlA fr to a < n ∧ hdA fr to a < n := fun a ha => ⟨tl_lt E.e ha, hd_lt E.e ha⟩
  refine E_mincost_circles_turn ?_
  unfold B_mincost_circles_turn
  refine new_bl ?_
  intro b1 q1 hb1 x1 B1_
  have C1 : B1 (own1 own b1 9) q1 9 b1 [.pointer (some (bk bn))] := B1.new B1_
  have F0 : Fm [3, 6, 7, 20, 21, 22] own h (own1 own b1 9) q1 := Fm.new x1 hb1
  have S : MS (own1 own b1 9) q1 bn n m fr to cap b cost room ex pot := ⟨S.net.nw x1 hb1, S.rm, S.bal⟩
  generalize own1 own b1 9 = ow at *
  obtain ⟨vf, vt, vr, vc, vo, vx, vp, outs, k8, k1, k2, k3, k4, k5, k6, k7, ko⟩ := S.net.q
  refine ⟨_, C1.ld0 rfl, ptrP_mk ⟨_, k8.ld rfl, k5.len (va_length _ _) fun _ _ => mk_ints 20 (by omega) (by omega) ?_⟩⟩
  intro b9 q9 hb9 x9 S9
  have kV := S9 ow
  have F9 : Fm [] ow q1 (own1 ow b9 20) q9 := Fm.new x9 hb9
  have C1 := C1.nw (j := 20) x9 hb9
  have k1 := k1.nw (j := 20) x9 hb9
  have k2 := k2.nw (j := 20) x9 hb9
  have k3 := k3.nw (j := 20) x9 hb9
  have k4 := k4.nw (j := 20) x9 hb9
  have k5 := k5.nw (j := 20) x9 hb9
  have k6 := k6.nw (j := 20) x9 hb9
  have k7 := k7.nw (j := 20) x9 hb9
  have k8 := k8.nw (j := 20) x9 hb9
  have ko := fun v hv => (ko v hv).nw (j := 20) x9 hb9
  have F0 := F0.trans (F9.mono (by simp))
  generalize own1 ow b9 20 = ow at *
  clear S9 F9
  simp only [Int.toNat_natCast]
  refine ⟨_, C1.ld0 rfl, ptrP_mk ⟨_, k8.ld rfl, k7.clr fun g F1 k7 => ?_⟩⟩
  have C1 := C1.fm F1 (by simp <;> omega)
  have k1 := k1.fm F1 (by simp <;> omega)
  have k2 := k2.fm F1 (by simp <;> omega)
  have k3 := k3.fm F1 (by simp <;> omega)
  have k4 := k4.fm F1 (by simp <;> omega)
  have k5 := k5.fm F1 (by simp <;> omega)
  have k6 := k6.fm F1 (by simp <;> omega)
  have k8 := k8.fm F1 (by simp <;> omega)
  have kV := kV.fm F1 (by simp <;> omega)
  have ko := fun v hv => (ko v hv).fm F1 (by simp; omega)
  have F0 := F0.trans (F1.mono (by simp))
  have S : MS ow g bn n m fr to cap b cost room ex fun _ => 0 := ⟨⟨vf, vt, vr, vc, vo, vx, vp, outs, k8, k1, k2, k3, k4, k5, k6, k7, ko⟩, S.rm, S.bal⟩
  clear k1 k2 k3 k4 k5 k6 k7 k8 ko F1
  let U : Nat → Prop := fun a => 0 < room a
  let I : (Int × Int × Unit) → H → Nat → Prop := fun p q z => ∃ (t : Nat) (d : Nat → Int) (via τ r : Nat → Nat) (tm : Nat), p.2.1 = t ∧ t ≤ n + 1 ∧ z = n + 1 - t ∧ Fm [3, 6, 7, 20, 21, 22] own h ow q ∧ MS ow q bn n m fr to cap b cost room ex d ∧ B1 ow q 9 b1 [.pointer (some (bk bn))] ∧ S1 ow q 20 (slV b9 n) (ints n fun v => (via v : Nat)) ∧
    BF (2 * m) (tlA fr to) (hdA fr to) cost U 1048576 (t + 1) 0 d via τ r tm ∧ tm ≤ 1 + t * 8192 ∧ (∀ v, r v ≤ t) ∧ (0 < t → BF (2 * m) (tlA fr to) (hdA fr to) cost U 1048576 t (2 * m) d via τ r tm ∧ ∃ v : Nat, p.1 = v ∧ v < n ∧ r v = t)
  refine ⟨fun p q => ∃ k, I p q k, rk I, rk_wf I, ⟨_, 0, fun _ => 0, fun _ => 0, fun _ => 0, fun _ => 0, 1, rfl, by omega, rfl, F0, S, C1, kV, BF.start (by omega), by omega, fun v => Nat.le_refl _, fun h => by omega⟩, ?_⟩
  clear S C1 F0 kV
  intro last p q hI
  obtain ⟨t, d, via, τ, r, tm, e1, ht, hz, F0, S, C1, kV, B0, htm, hr, hB⟩ := mu_spec hI
  generalize hkk : mu I ((last, p, ()), q) = km at *
  change p = (t : Int) at e1
  change 0 < t → BF (2 * m) (tlA fr to) (hdA fr to) cost U 1048576 t (2 * m) d via τ r tm ∧ ∃ v : Nat, last = v ∧ v < n ∧ r v = t at hB
  subst e1
  have hlt : t < n + 1 → n + 1 - (t + 1) < mu I ((last, (t : Int), ()), q) := fun h => by rw [hkk, hz]; exact sub_dec h
  clear hI
  have ew : IntKind.i64.wrap ((n : Int) + 1) = ((n + 1 : Nat) : Int) := i64_inc (by omega)
  rw [ew]
  refine ifP_of (fun h1 => ?_) (fun h1 => ?_)
  · have htn : t < n + 1 := by have := of_decide_eq_true h1; omega
    rw [i64_inc (by omega)]
    obtain ⟨vf, vt, vr, vc, vo, vx, vp, outs, k8, k1, k2, k3, k4, k5, k6, k7, ko⟩ := S.net.q
    refine ⟨_, C1.ld0 rfl, ptrP_mk ⟨_, k8.ld rfl, k2.len (ints_length _ _) fun _ _ => ?_⟩⟩
    let I3 : (Int × Int × Unit) → H → Nat → Prop := fun p q z => ∃ (j : Nat) (d : Nat → Int) (via τ r : Nat → Nat) (tm : Nat), p.2.1 = j ∧ j ≤ 2 * m ∧ z = 2 * m - j ∧ Fm [3, 6, 7, 20, 21, 22] own h ow q ∧ B1 ow q 9 b1 [.pointer (some (bk bn))] ∧ S1 ow q 20 (slV b9 n) (ints n fun v => (via v : Nat)) ∧
      B1 ow q 8 bn [vf, vt, vr, vc, vo, vx, vp] ∧ S1 ow q 1 vf (ints (2 * m) fun a => (tlA fr to a : Nat)) ∧ S1 ow q 2 vt (ints (2 * m) fun a => (hdA fr to a : Nat)) ∧
      S1 ow q 3 vr (ints (2 * m) room) ∧ S1 ow q 4 vc (ints (2 * m) cost) ∧ S1 ow q 5 vo (va n outs) ∧ S1 ow q 6 vx (ints n ex) ∧ S1 ow q 7 vp (ints n d) ∧ (∀ v, v < n → S1 ow q (40 + v) (outs v) (natV (arcsL fr to m v))) ∧
      BF (2 * m) (tlA fr to) (hdA fr to) cost U 1048576 (t + 1) j d via τ r tm ∧ tm ≤ 1 + t * 8192 + j ∧ ((p.1 = -1 ∧ ∀ v, r v ≤ t) ∨ ∃ v : Nat, p.1 = v ∧ v < n ∧ r v = t + 1)
    refine ⟨fun p q => ∃ k, I3 p q k, Go.Proofs.YtjlojokockfapaaGreatDoor.rk I3, rk_wf I3, ⟨_, 0, d, via, τ, r, tm, rfl, by omega, rfl, F0, C1, kV, k8, k1, k2, k3, k4, k5, k6, k7, ko, B0, by omega, .inl ⟨rfl, hr⟩⟩, ?_⟩
    have rm := S.rm
    have bal := S.bal
    clear F0 S C1 kV k1 k2 k3 k4 k5 k6 k7 k8 ko B0 htm hr hB
    intro last2 p q2 hI
    obtain ⟨j, d, via, τ, r, tm, e1, hj, hz2, F0, C1, kV, k8, k1, k2, k3, k4, k5, k6, k7, ko, B0, htm, hl⟩ := mu_spec hI
    generalize hkk2 : mu I3 ((last2, p, ()), q2) = km2 at *
    change p = (j : Int) at e1
    change (last2 = -1 ∧ ∀ v, r v ≤ t) ∨ ∃ v : Nat, last2 = v ∧ v < n ∧ r v = t + 1 at hl
    subst e1
    have hlt2 : j < 2 * m → 2 * m - (j + 1) < mu I3 ((last2, (j : Int), ()), q2) := fun h => by rw [hkk2, hz2]; exact sub_dec h
    clear hI
    refine ifP_of (fun h2 => ?_) (fun h2 => ?_)
    · have hjm : j < 2 * m := by have := of_decide_eq_true h2; omega
      have hA := hnA j hjm
      rw [i64_inc (by omega)]
      refine k2.rdI hjm ⟨_, C1.ld0 rfl, ptrP_mk ⟨_, k8.ld0 rfl, k1.rdI hjm ⟨_, C1.ld0 rfl, ptrP_mk ⟨_, k8.ld rfl, k3.rdI hjm (ifP_of (fun h3 => ?_) (fun h3 => ?_))⟩⟩⟩⟩
      · have h3 := of_decide_eq_true h3
        have l1 := B0.lb (tlA fr to j)
        have l2 := B0.neg (tlA fr to j)
        have cb := hcb j hjm
        have ed : IntKind.i64.wrap (d (tlA fr to j) + cost j) = d (tlA fr to j) + cost j := w64_in (by omega) (by omega)
        refine ⟨_, C1.ld0 rfl, ptrP_mk ⟨_, k8.ld rfl, k7.rdI hA.1 ⟨_, C1.ld0 rfl, ptrP_mk ⟨_, k8.ld rfl, k4.rdI hjm ⟨_, C1.ld0 rfl, ptrP_mk ⟨_, k8.ld rfl, k7.rdI hA.2 ?_⟩⟩⟩⟩⟩⟩
        rw [ed]
        refine ifP_of (fun h4 => ?_) (fun h4 => ?_)
        · have h4 := of_decide_eq_true h4
          refine ⟨_, C1.ld0 rfl, ptrP_mk ⟨_, k8.ld rfl, ⟨_, C1.ld0 rfl, ptrP_mk ⟨_, k8.ld rfl, k7.rdI hA.1 ⟨_, C1.ld0 rfl, ptrP_mk ⟨_, k8.ld rfl, k4.rdI hjm ?_⟩⟩⟩⟩⟩⟩
          rw [ed]
          refine k7.setI hA.2 fun g F1 k7 => ?_
          have C1 := C1.fm F1 (by simp <;> omega)
          have kV := kV.fm F1 (by simp <;> omega)
          have k1 := k1.fm F1 (by simp <;> omega)
          have k2 := k2.fm F1 (by simp <;> omega)
          have k3 := k3.fm F1 (by simp <;> omega)
          have k4 := k4.fm F1 (by simp <;> omega)
          have k5 := k5.fm F1 (by simp <;> omega)
          have k6 := k6.fm F1 (by simp <;> omega)
          have k8 := k8.fm F1 (by simp <;> omega)
          have ko := fun v hv => (ko v hv).fm F1 (by simp; omega)
          refine kV.setI hA.2 fun g2 F2 kV => ?_
          have C1 := C1.fm F2 (by simp <;> omega)
          have k1 := k1.fm F2 (by simp <;> omega)
          have k2 := k2.fm F2 (by simp <;> omega)
          have k3 := k3.fm F2 (by simp <;> omega)
          have k4 := k4.fm F2 (by simp <;> omega)
          have k5 := k5.fm F2 (by simp <;> omega)
          have k6 := k6.fm F2 (by simp <;> omega)
          have k7 := k7.fm F2 (by simp <;> omega)
          have k8 := k8.fm F2 (by simp <;> omega)
          have ko := fun v hv => (ko v hv).fm F2 (by simp; omega)
          have ev : upd (fun v => ((via v : Nat) : Int)) (hdA fr to j) (j : Int) = fun v => ((updN via (hdA fr to j) j v : Nat) : Int) := by
            funext v; unfold upd updN; split <;> rfl
          rw [ev] at kV
          have F12 := F0.trans ((F1.mono (M' := [3, 6, 7, 20, 21, 22]) (by simp)).trans (F2.mono (by simp)))
          exact mu_next (I := I3) (k := 2 * m - (j + 1)) ⟨j + 1, _, _, _, _, tm + 1, rfl, hjm, rfl, F12, C1, kV, k8, k1, k2, k3, k4, k5, k6, k7, ko, B0.relax (by omega) hjm h3 (fun i hi => (hcb i hi).1) (by omega) h4, by omega, .inr ⟨hdA fr to j, rfl, hA.2, by rw [updN_at]⟩⟩ (hlt2 hjm)
        · have h4 := of_decide_eq_false h4
          exact mu_next (I := I3) (k := 2 * m - (j + 1)) ⟨j + 1, d, via, τ, r, tm, rfl, hjm, rfl, F0, C1, kV, k8, k1, k2, k3, k4, k5, k6, k7, ko, B0.skip (.inr (by omega)), by omega, hl⟩ (hlt2 hjm)
      · exact mu_next (I := I3) (k := 2 * m - (j + 1)) ⟨j + 1, d, via, τ, r, tm, rfl, hjm, rfl, F0, C1, kV, k8, k1, k2, k3, k4, k5, k6, k7, ko, B0.skip (.inl (of_decide_eq_false h3)), by omega, hl⟩ (hlt2 hjm)
    · have : j = 2 * m := by have := of_decide_eq_false h2; omega
      subst this
      have S : MS ow q2 bn n m fr to cap b cost room ex d := ⟨⟨vf, vt, vr, vc, vo, vx, vp, outs, k8, k1, k2, k3, k4, k5, k6, k7, ko⟩, rm, bal⟩
      refine ifP_of (fun h3 => ?_) (fun h3 => ?_)
      · have h3 := of_decide_eq_true h3
        have hr : ∀ v, r v ≤ t := by
          rcases hl with ⟨_, h⟩ | ⟨v, h, _⟩
          · exact h
          · omega
        have tri := B0.done fun v => by have := hr v; omega
        exact ⟨ow, F0, .inl ⟨rfl, d, S, fun a ha hra => tri_pot (tri a ha hra), fun v hv => ⟨by have := B0.low hnA (fun a ha => (hcb a ha).1) (by omega) tri v; omega, B0.neg v⟩⟩⟩
      · have h3 := of_decide_eq_false h3
        refine mu_next (I := I) (k := n + 1 - (t + 1)) ⟨t + 1, d, via, τ, r, tm, rfl, htn, rfl, F0, S, C1, kV, B0.next, by omega, B0.rk, fun _ => ⟨B0, ?_⟩⟩ (hlt htn)
        rcases hl with ⟨h, _⟩ | h
        · omega
        · exact h
  have : t = n + 1 := by have := of_decide_eq_false h1; omega
  subst this
  obtain ⟨B, v, rfl, hvn, hrv⟩ := hB (by omega)
  clear hlt hkk hz h1 hB B0
  obtain ⟨hpos, p0, p1, p2, p3⟩ := B.found hnA hrv
  have hset : ∀ s, via (bck (tlA fr to) via v s) < 2 * m ∧ 0 < room (via (bck (tlA fr to) via v s)) ∧ hdA fr to (via (bck (tlA fr to) via v s)) = bck (tlA fr to) via v s := fun s => by
    obtain ⟨a, b, c, _⟩ := B.set _ (hpos s)
    exact ⟨a, b, c⟩
  have hbn : ∀ s, bck (tlA fr to) via v s < n := fun s => by
    obtain ⟨a, _, c⟩ := hset s
    rw [← c]; exact (hnA _ a).2
  let I7 : (Int × Int × Unit) → H → Nat → Prop := fun p q' z => ∃ s : Nat, p.2.1 = s ∧ p.1 = (bck (tlA fr to) via v s : Nat) ∧ s ≤ n ∧ z = n - s ∧ q' = q
  refine ⟨fun p q => ∃ k, I7 p q k, Go.Proofs.YtjlojokockfapaaGreatDoor.rk I7, rk_wf I7, ⟨_, 0, rfl, rfl, by omega, rfl, rfl⟩, ?_⟩
  intro la p q7 hI
  obtain ⟨s, e1, e2, hs, hz, e3⟩ := mu_spec hI
  generalize hkk : mu I7 ((la, p, ()), q7) = km at *
  change p = (s : Int) at e1
  change la = (bck (tlA fr to) via v s : Nat) at e2
  subst e1 e2 e3
  have hlt : s < n → n - (s + 1) < mu I7 ((((bck (tlA fr to) via v s : Nat) : Int), (s : Int), ()), q7) := fun h => by rw [hkk, hz]; exact sub_dec h
  clear hI
  obtain ⟨vf, vt, vr, vc, vo, vx, vp, outs, k8, k1, k2, k3, k4, k5, k6, k7, ko⟩ := S.net.q
  refine ifP_of (fun h1 => ?_) (fun h1 => ?_)
  · have hsn : s < n := by have := of_decide_eq_true h1; omega
    rw [i64_inc (by omega)]
    refine kV.at (ints_get (hbn s)) fun a83 ha83 => ⟨_, C1.ld0 rfl, ptrP_mk ⟨_, k8.ld0 rfl, _, ha83, k1.rdI (hset s).1 ?_⟩⟩
    exact mu_next (I := I7) (k := n - (s + 1)) ⟨s + 1, rfl, rfl, hsn, rfl, rfl⟩ (hlt hsn)
  have : s = n := by have := of_decide_eq_false h1; omega
  subst this
  clear hlt hkk hz h1 hs
  -- the circle
  obtain ⟨Y, hY⟩ : ∃ Y, Y = bck (tlA fr to) via (bck (tlA fr to) via v s) := ⟨_, rfl⟩
  have Yv : ∀ t, Y t = bck (tlA fr to) via v (s + t) := fun t => by rw [hY, bck_add]
  have Y0 : bck (tlA fr to) via v s = Y 0 := by rw [Yv]; rfl
  have Ys : ∀ t, Y (t + 1) = tlA fr to (via (Y t)) := fun t => by rw [hY]; rfl
  have Yset : ∀ t, via (Y t) < 2 * m ∧ 0 < room (via (Y t)) ∧ hdA fr to (via (Y t)) = Y t := fun t => by rw [Yv]; exact hset _
  have Yn : ∀ t, Y t < s := fun t => by rw [Yv]; exact hbn _
  have Ya : ∀ i l, Y (i + l) = bck (tlA fr to) via (Y i) l := fun i l => by rw [hY, bck_add]
  obtain ⟨L, ⟨L1, L2, L3⟩, Lmin⟩ := least (P := fun p => 1 ≤ p ∧ p ≤ s ∧ Y p = Y 0) ⟨p0, p1, p2, by rw [hY]; exact p3⟩
  have Ydist : ∀ i l, i < l → l < L → Y i ≠ Y l := fun i l h1 h2 e => by
    have e2 : Y (i + (L - l)) = Y (l + (L - l)) := by rw [Ya, Ya, e]
    rw [show l + (L - l) = L by omega, L3] at e2
    have := Lmin (i + (L - l)) ⟨by omega, by omega, e2⟩
    omega
  have Yneg : sumN L (fun t => cost (via (Y t))) < 0 := by
    have := B.circ (y := Y 0) (p := L) L1 (by rw [← Ya, Nat.zero_add]; exact L3) (fun i _ => by rw [← Ya, Nat.zero_add, Yv]; exact hpos _)
    refine Int.lt_of_le_of_lt (Int.le_of_eq (sumN_congr fun t _ => ?_)) this
    rw [← Ya, Nat.zero_add]
  have negc : NegC s m fr to room cost := ⟨Y, fun t => via (Y t), L, L1, L2, L3, fun t _ => ⟨(Yset t).1, (Yset t).2.2, (Ys t).symm, (Yset t).2.1⟩, Yneg⟩
  rw [Y0]
  clear B hpos p0 p1 p2 p3 hset hbn hrv
  refine kV.rdI (Yn 0) (new_bl ?_)
  intro b92 q92 hb92 x92 B92
  have kA : S1 (own1 ow b92 21) q92 21 (.slice (some (bk b92)) 1 1) (natV ((List.range 1).map fun t => via (Y t))) := .inr ⟨b92, own1_at, 1, B92.choose, [], rfl, B92.choose_spec, rfl⟩
  have F92 : Fm [] ow q7 (own1 ow b92 21) q92 := Fm.new x92 hb92
  have S := S.fm F92 (by simp)
  have C1 := C1.fm F92 (by simp <;> omega)
  have kV := kV.fm F92 (by simp <;> omega)
  have F0 := F0.trans (F92.mono (by simp))
  generalize own1 ow b92 21 = ow2 at *
  obtain ⟨vf, vt, vr, vc, vo, vx, vp, outs, k8, k1, k2, k3, k4, k5, k6, k7, ko⟩ := S.net.q
  refine kV.at (ints_get (Yn 0)) fun a94 ha94 => ⟨_, C1.ld0 rfl, ptrP_mk ⟨_, k8.ld0 rfl, _, ha94, k1.rdI (Yset 0).1 ?_⟩⟩
  clear k1 k2 k3 k4 k5 k6 k7 k8 ko F92 x92 B92
  let I8 : (Value × Int × Unit) → H → Nat → Prop := fun p q z => ∃ (t : Nat) (ow : Own), p.2.1 = (Y t : Nat) ∧ 1 ≤ t ∧ t ≤ L ∧ z = L - t ∧ Fm [3, 6, 7, 20, 21, 22] own h ow q ∧ MS ow q bn s m fr to cap b cost room ex d ∧ B1 ow q 9 b1 [.pointer (some (bk bn))] ∧ S1 ow q 20 (slV b9 s) (ints s fun v => (via v : Nat)) ∧
    S1 ow q 21 p.1 (natV ((List.range t).map fun t => via (Y t)))
  refine ⟨fun p q => ∃ k, I8 p q k, Go.Proofs.YtjlojokockfapaaGreatDoor.rk I8, rk_wf I8, ⟨_, 1, ow2, by rw [Ys], Nat.le_refl _, L1, rfl, F0, S, C1, kV, kA⟩, ?_⟩
  clear F0 S C1 kV kA
  intro arcs u q8 hI
  obtain ⟨t, ow, e1, ht1, ht, hz, F0, S, C1, kV, kA⟩ := mu_spec hI
  generalize hkk : mu I8 ((arcs, u, ()), q8) = km at *
  change u = (Y t : Nat) at e1
  change S1 ow q8 21 arcs _ at kA
  subst e1
  have hlt : t < L → L - (t + 1) < mu I8 ((arcs, ((Y t : Nat) : Int), ()), q8) := fun h => by rw [hkk, hz]; exact sub_dec h
  clear hI
  have hlen : (natV ((List.range t).map fun t => via (Y t))).length = t := by rw [natV_length]; simp
  refine ifP_of (fun h1 => ?_) (fun h1 => ?_)
  · have htL : t < L := by
      by_cases e : t = L
      · subst e; rw [L3] at h1; simp at h1
      · omega
    refine kV.rdI (Yn t) (kA.push (l := 1) rfl (by simp [Value.oneCell']) (by simp) (by omega) (by rw [hlen]; omega) ?_)
    intro bx hm2 p' ow' q' hbx xm F1 kA
    have S := S.fm F1 (by simp)
    have C1 := C1.fm F1 (by simp <;> omega)
    have kV := kV.fm F1 (by simp <;> omega)
    have F0 := F0.trans (F1.mono (by simp))
    obtain ⟨vf, vt, vr, vc, vo, vx, vp, outs, k8, k1, k2, k3, k4, k5, k6, k7, ko⟩ := S.net.q
    refine kV.at (ints_get (Yn t)) fun a112 ha112 => ⟨_, C1.ld0 rfl, ptrP_mk ⟨_, k8.ld0 rfl, _, ha112, k1.rdI (Yset t).1 ?_⟩⟩
    rw [← Ys]
    refine mu_next (I := I8) (k := L - (t + 1)) ⟨t + 1, ow', rfl, by omega, htL, rfl, F0, S, C1, kV, ?_⟩ (hlt htL)
    have : natV ((List.range (t + 1)).map fun t => via (Y t)) = natV ((List.range t).map fun t => via (Y t)) ++ [.int .i64 ((via (Y t) : Nat) : Int)] := by
      simp [natV, List.range_succ]
    rw [this]; exact kA
  have htL : t = L := by
    apply Classical.byContradiction
    intro h
    have e : Y t = Y 0 := by
      have := h1
      simp at this
      omega
    have := Lmin t ⟨ht1, by omega, e⟩
    omega
  subst htL
  clear hlt hkk hz h1 ht
  have harc : ∀ i, i < t → (natV ((List.range t).map fun t => via (Y t)))[i]? = some (.int .i64 ((via (Y i) : Nat) : Int)) := fun i hi => by
    simp [natV, List.getElem?_range hi]
  refine kA.len hlen fun _ _ => ?_
  let I9 : (Int × Int × Unit) → H → Nat → Prop := fun p q' z => ∃ i : Nat, p.2.1 = i ∧ i ≤ t ∧ z = t - i ∧ q' = q8 ∧ 0 < p.1 ∧ p.1 ≤ 4611686018427387904 ∧ ∀ l, l < i → p.1 ≤ room (via (Y l))
  refine ⟨fun p q => ∃ k, I9 p q k, Go.Proofs.YtjlojokockfapaaGreatDoor.rk I9, rk_wf I9, ⟨_, 0, rfl, by omega, rfl, rfl, by show (0 : Int) < 4611686018427387904; omega, Int.le_refl _, fun l hl => by omega⟩, ?_⟩
  intro x p q9 hI
  obtain ⟨i, e1, hi, hz, e2, x0, x1', xr⟩ := mu_spec hI
  generalize hkk : mu I9 ((x, p, ()), q9) = km at *
  change p = (i : Int) at e1
  change 0 < x at x0
  change x ≤ 4611686018427387904 at x1'
  change ∀ l, l < i → x ≤ room (via (Y l)) at xr
  subst e1 e2
  have hlt : i < t → t - (i + 1) < mu I9 ((x, (i : Int), ()), q9) := fun h => by rw [hkk, hz]; exact sub_dec h
  clear hI
  refine ifP_of (fun h1 => ?_) (fun h1 => ?_)
  · have hit : i < t := by have := of_decide_eq_true h1; omega
    obtain ⟨vf, vt, vr, vc, vo, vx, vp, outs, k8, k1, k2, k3, k4, k5, k6, k7, ko⟩ := S.net.q
    rw [i64_inc (by omega)]
    refine kA.rd (harc i hit) ⟨_, C1.ld0 rfl, ptrP_mk ⟨_, k8.ld rfl, k3.rdI (Yset i).1 ?_⟩⟩
    have ri := (Yset i).2.1
    have key : ∀ x', x' = (if room (via (Y i)) < x then room (via (Y i)) else x) → (∃ k, I9 (x', ((i + 1 : Nat) : Int), ()) q9 k) ∧ Go.Proofs.YtjlojokockfapaaGreatDoor.rk I9 ((x', ((i + 1 : Nat) : Int), ()), q9) ((x, (i : Int), ()), q9) := by
      rintro x' rfl
      refine mu_next (I := I9) (k := t - (i + 1)) ⟨i + 1, rfl, hit, rfl, rfl, ?_, ?_, fun l hl => ?_⟩ (hlt hit)
      · show 0 < (if room (via (Y i)) < x then room (via (Y i)) else x)
        split <;> omega
      · show (if room (via (Y i)) < x then room (via (Y i)) else x) ≤ _
        split <;> omega
      · show (if room (via (Y i)) < x then room (via (Y i)) else x) ≤ _
        by_cases e : l = i
        · subst e; split <;> omega
        · have := xr l (by omega); split <;> omega
    exact key _ rfl
  have : i = t := by have := of_decide_eq_false h1; omega
  subst this
  clear hlt hkk hz h1 hi
  have xb : x ≤ 1048576 := by
    have := xr 0 (by omega)
    have := S.rb E (Yset 0).1
    omega
  refine kA.len hlen fun _ _ => ?_
  let I10 : (Int × Unit) → H → Nat → Prop := fun p q' z => ∃ (l : Nat) (room' ex' : Nat → Int), p.1 = l ∧ l ≤ i ∧ z = i - l ∧ Fm [3, 6] ow q9 ow q' ∧ MS ow q' bn s m fr to cap b cost room' ex' d ∧ (∀ w, ex' w = ex w + (if w = Y 0 then x else 0) - (if w = Y l then x else 0)) ∧
    (∀ j, l ≤ j → j < i → x ≤ room' (via (Y j))) ∧ totC m (fun i => cost (2 * i)) (onR room') = totC m (fun i => cost (2 * i)) (onR room) + x * sumN l (fun j => cost (via (Y j)))
  refine ⟨fun p q => ∃ k, I10 p q k, Go.Proofs.YtjlojokockfapaaGreatDoor.rk I10, rk_wf I10, ⟨_, 0, room, ex, rfl, by omega, rfl, Fm.refl, S, fun w => by omega, fun j _ hj => xr j hj, by show _ = _ + x * 0; omega⟩, ?_⟩
  clear S
  intro p q10 hI
  obtain ⟨l, room', ex', e1, hl, hz, F1, S, hex, hle, htot⟩ := mu_spec hI
  generalize hkk : mu I10 ((p, ()), q10) = km at *
  change p = (l : Int) at e1
  subst e1
  have hlt : l < i → i - (l + 1) < mu I10 (((l : Int), ()), q10) := fun h => by rw [hkk, hz]; exact sub_dec h
  clear hI
  have C2 := C1.fm F1 (by simp)
  have kA2 := kA.fm F1 (by simp)
  refine ifP_of (fun h1 => ?_) (fun h1 => ?_)
  · have hli : l < i := by have := of_decide_eq_true h1; omega
    rw [i64_inc (by omega)]
    refine kA2.rd (harc l hli) ⟨_, C2.ld0 rfl, ?_⟩
    refine (S.send E (Yset l).1 (by omega) (hle l (Nat.le_refl _) hli)).mono ?_
    rintro _ q11 ⟨rfl, F2, S2⟩
    refine rt_ret ⟨rfl, mu_next (I := I10) (k := i - (l + 1)) ⟨l + 1, _, _, rfl, hli, rfl, F1.trans F2, S2, fun w => ?_, fun j h3 h4 => ?_, ?_⟩ (hlt hli)⟩
    · unfold exS
      rw [(Yset l).2.2, ← Ys, hex w]
      by_cases e : Y l = w
      · subst e
        by_cases e2 : Y (l + 1) = Y l
        · rw [if_pos rfl, if_pos e2, if_pos e2.symm]; omega
        · rw [if_pos rfl, if_neg e2, if_neg (fun h : Y l = Y (l + 1) => e2 h.symm)]; omega
      · rw [if_neg e, if_neg (fun h : w = Y l => e h.symm)]
        by_cases e2 : Y (l + 1) = w
        · rw [if_pos e2, if_pos e2.symm]; omega
        · rw [if_neg e2, if_neg (fun h : w = Y (l + 1) => e2 h.symm)]; omega
    · have hne : via (Y j) ≠ via (Y l) := fun e => by
        have := (Yset j).2.2
        rw [e, (Yset l).2.2] at this
        exact Ydist l j (by omega) h4 this
      have hj := hle j (by omega) h4
      by_cases e : via (Y j) = prA (via (Y l))
      · rw [e, sndR_p]; rw [e] at hj; omega
      · rw [sndR_o hne e]; exact hj
    · rw [tot_snd (Yset l).1, htot]
      have ec : cA (fun i => cost (2 * i)) (via (Y l)) = cost (via (Y l)) := by
        have h2 := (Yset l).1
        rw [hcost _ h2]
        unfold cA
        dsimp only
        rw [hcost (2 * (via (Y l) / 2)) (by omega), cA_0]
      rw [ec]
      show _ = _ + x * (sumN l (fun j => cost (via (Y j))) + cost (via (Y l)))
      rw [Int.mul_add, Int.mul_comm x (cost _)]; omega
  · have : l = i := by have := of_decide_eq_false h1; omega
    subst this
    refine ⟨ow, F0.trans (F1.mono (by simp)), .inr ⟨rfl, negc, room', ex', d, S, fun w => by rw [hex w, L3]; omega, ?_⟩⟩
    rw [htot]
    have : x * sumN l (fun j => cost (via (Y j))) < 0 := Int.mul_neg_of_pos_of_neg x0 Yneg
    omega
end

end Go.Proofs.YtjlojokockfapaaGreatDoor

namespace Go.Proofs.YtjlojokockfapaaGreatDoor
open Go
open Classical
set_option linter.unusedVariables false
set_option linter.unusedSimpArgs false

section
variable {own own' : Own} {h h' : H} {bn n m : Nat} {fr to : Nat → Nat} {cap b k cost room ex pot via : Nat → Int} {M : List Nat}
theorem way_of {A : Nat → Prop} {rk : Nat → Nat} (hA : ∀ v, A v → v < n ∧ ((via v = -1 ∧ 0 < ex v) ∨ ∃ a : Nat, via v = a ∧ a < 2 * m ∧ hdA fr to a = v ∧ 0 < room a ∧ A (tlA fr to a) ∧ rk (tlA fr to a) < rk v)) : ∀ (q u : Nat), A u → rk u < q →
    ∃ (y : Nat → Nat) (L : Nat), y 0 = u ∧ WayP n m fr to room via y L ∧ 0 < ex (y L) ∧ ∀ s, s ≤ L → A (y s) ∧ rk (y s) ≤ rk u := by
  intro q
  induction q with
  | zero => intro u _ h; omega
  | succ q ih =>
    intro u hu hr
    obtain ⟨un, hu2⟩ := hA u hu
    rcases hu2 with ⟨h1, h2⟩ | ⟨a, h1, h2, h3, h4, h5, h7⟩
    · refine ⟨fun _ => u, 0, rfl, ⟨fun _ _ => un, fun s hs => by omega, by rw [h1]; omega, fun s t h h' => by omega⟩, h2, fun s _ => ⟨hu, Nat.le_refl _⟩⟩
    · obtain ⟨y, L, y0, W, w2, w3⟩ := ih (tlA fr to a) h5 (by omega)
      let z : Nat → Nat := fun s => if s = 0 then u else y (s - 1)
      have z0 : z 0 = u := rfl
      have zs : ∀ s, z (s + 1) = y s := fun s => rfl
      have z1 : ∀ s, s ≠ 0 → z s = y (s - 1) := fun s hs => if_neg hs
      refine ⟨z, L + 1, rfl, ⟨fun s hs => ?_, fun s hs => ?_, by rw [zs]; exact W.stop, fun s t hst ht => ?_⟩, by rw [zs]; exact w2, fun s hs => ?_⟩
      · by_cases e : s = 0
        · subst e; exact un
        · rw [z1 s e]; exact W.lt _ (by omega)
      · by_cases e : s = 0
        · subst e
          exact ⟨a, h1, h2, h3, by rw [zs, y0], h4⟩
        · rw [z1 s e, zs]
          have := W.arc (s - 1) (by omega)
          rwa [show s - 1 + 1 = s by omega] at this
      · rw [z1 t (by omega)]
        by_cases e : s = 0
        · subst e
          rw [z0]
          intro e
          have := w3 (t - 1) (by omega)
          rw [← e] at this; omega
        · rw [z1 s e]
          exact W.inj _ _ (by omega) (by omega)
      · by_cases e : s = 0
        · subst e; exact ⟨hu, Nat.le_refl _⟩
        · rw [z1 s e]
          have := w3 (s - 1) (by omega)
          exact ⟨this.1, by omega⟩
/-- Broad first: who is seen, by which arc. -/
structure BfP (n m : Nat) (fr to : Nat → Nat) (room ex : Nat → Int) (sd : Nat → Bool) (via : Nat → Int) (Q : List Nat) (rk : Nat → Nat) : Prop where
  qs : ∀ v ∈ Q, v < n ∧ sd v = true
  sq : ∀ v, sd v = true → v ∈ Q
  arc : ∀ v, sd v = true → (via v = -1 ∧ 0 < ex v) ∨ ∃ a : Nat, via v = a ∧ a < 2 * m ∧ hdA fr to a = v ∧ 0 < room a ∧ sd (tlA fr to a) = true ∧ rk (tlA fr to a) < rk v
  ok : ∀ v, sd v = true → 0 ≤ ex v
  len : (Q.length : Int) + unm n sd ≤ n
  src : ∀ v, v < n → 0 < ex v → sd v = true
  rkb : ∀ v, sd v = true → rk v < Q.length + 1
/-- Found, or there is none. -/
def SrP (n m : Nat) (fr to : Nat → Nat) (room ex via : Nat → Int) (fnd : Int) : Prop :=
  (fnd = -1 ∧ ∀ u v, u < n → 0 < ex u → Rch (ArS m fr to room) u v → 0 ≤ ex v) ∨ ∃ (f : Nat) (y : Nat → Nat) (L : Nat), fnd = f ∧ f < n ∧ ex f < 0 ∧ y 0 = f ∧ WayP n m fr to room via y L ∧ 0 < ex (y L)
section
variable {sd : Nat → Bool} {Q : List Nat} {rk : Nat → Nat}
theorem BfP.see (B : BfP n m fr to room ex sd via Q rk) {a : Nat} (ha : a < 2 * m) (ht : sd (tlA fr to a) = true) (hr : 0 < room a) (hf : sd (hdA fr to a) = false) :
    ∀ v, updB sd (hdA fr to a) true v = true → (upd via (hdA fr to a) a v = -1 ∧ 0 < ex v) ∨ ∃ c : Nat, upd via (hdA fr to a) a v = c ∧ c < 2 * m ∧ hdA fr to c = v ∧ 0 < room c ∧ updB sd (hdA fr to a) true (tlA fr to c) = true ∧ updN rk (hdA fr to a) (Q.length + 1) (tlA fr to c) < updN rk (hdA fr to a) (Q.length + 1) v := by
  intro v hv
  have ne : ∀ w, sd w = true → w ≠ hdA fr to a := fun w hw e => by rw [e, hf] at hw; cases hw
  by_cases e : v = hdA fr to a
  · subst e
    refine .inr ⟨a, upd_at, ha, rfl, hr, updB_mono ht, ?_⟩
    rw [updN_at, updN_ne (ne _ ht)]
    exact B.rkb _ ht
  · have hv : sd v = true := by unfold updB at hv; rwa [if_neg e] at hv
    rw [upd_ne e, updN_ne e]
    rcases B.arc v hv with h | ⟨c, h1, h2, h3, h4, h5, h6⟩
    · exact .inl h
    · exact .inr ⟨c, h1, h2, h3, h4, updB_mono h5, by rw [updN_ne (ne _ h5)]; exact h6⟩
theorem BfP.push (B : BfP n m fr to room ex sd via Q rk) {a : Nat} (ha : a < 2 * m) (ht : sd (tlA fr to a) = true) (hr : 0 < room a) (hf : sd (hdA fr to a) = false) (hn : hdA fr to a < n) (hx : 0 ≤ ex (hdA fr to a)) :
    BfP n m fr to room ex (updB sd (hdA fr to a) true) (upd via (hdA fr to a) a) (Q ++ [hdA fr to a]) (updN rk (hdA fr to a) (Q.length + 1)) := by
  have hu := unm_set hn hf
  refine ⟨fun v hv => ?_, fun v hv => ?_, B.see ha ht hr hf, fun v hv => ?_, ?_, fun v hv hx => updB_mono (B.src v hv hx), fun v hv => ?_⟩
  · rcases List.mem_append.1 hv with h | h
    · exact ⟨(B.qs v h).1, updB_mono (B.qs v h).2⟩
    · have : v = hdA fr to a := by simpa using h
      subst this; exact ⟨hn, by unfold updB; simp⟩
  · by_cases e : v = hdA fr to a
    · subst e; simp
    · have : sd v = true := by unfold updB at hv; rwa [if_neg e] at hv
      exact List.mem_append.2 (.inl (B.sq v this))
  · by_cases e : v = hdA fr to a
    · subst e; exact hx
    · exact B.ok v (by unfold updB at hv; rwa [if_neg e] at hv)
  · have := B.len
    simp only [List.length_append, List.length_cons, List.length_nil]
    omega
  · simp only [List.length_append, List.length_cons, List.length_nil]
    by_cases e : v = hdA fr to a
    · subst e; rw [updN_at]; omega
    · rw [updN_ne e]
      have := B.rkb v (by unfold updB at hv; rwa [if_neg e] at hv)
      omega
end
theorem circles_T (S : MS own h bn n m fr to cap b cost room ex pot) (E : EvP n m fr to cap b) (hk : ∀ i, i < m → -1048576 ≤ k i ∧ k i ≤ 1048576) (hcost : ∀ a, a < 2 * m → cost a = cA k a) :
    T Tryz.prog F.mincost_circles_meet [.agg ⟨[.pointer (some (bk bn))]⟩] h (MeetA [3, 6, 7, 20, 21, 22] own h bn n m fr to cap b cost) := by
  have hm1 := E.m1
  have hn1 := E.n1
  have hcb : ∀ a, a < 2 * m → -1048576 ≤ cost a ∧ cost a ≤ 1048576 := fun a ha => by rw [hcost a ha]; exact cA_bd hk ha
  refine E_mincost_circles_meet ?_
  unfold B_mincost_circles_meet
  refine new_bl ?_
  intro b1 q1 hb1 x1 B1_
  have C1 : B1 (own1 own b1 9) q1 9 b1 [.pointer (some (bk bn))] := B1.new B1_
  have F0 : Fm [3, 6, 7, 20, 21, 22] own h (own1 own b1 9) q1 := Fm.new x1 hb1
  have S : MS (own1 own b1 9) q1 bn n m fr to cap b cost room ex pot := ⟨S.net.nw x1 hb1, S.rm, S.bal⟩
  generalize own1 own b1 9 = ow at *
  let I : Unit → H → Nat → Prop := fun _ q z => ∃ (ow : Own) (room' ex' : Nat → Int), z = (posS n ex').toNat ∧ Fm [3, 6, 7, 20, 21, 22] own h ow q ∧ MS ow q bn n m fr to cap b cost room' ex' pot ∧ B1 ow q 9 b1 [.pointer (some (bk bn))]
  refine ⟨fun p q => ∃ k, I p q k, rk I, rk_wf I, ⟨_, ow, room, ex, rfl, F0, S, C1⟩, ?_⟩
  clear F0 S C1
  intro q hI
  obtain ⟨ow, room', ex', hz, F0, S, C1⟩ := mu_spec hI
  generalize hkk : mu I ((), q) = km at *
  clear hI
  refine ⟨_, C1.ld0 rfl, oneP_ptr ((missing_T S.net E.n1).mono ?_)⟩
  rintro _ q2 ⟨⟨t, rfl, ht⟩, x2⟩
  have F0 := F0.trans (Fm.of_ext x2)
  have S := S.ext x2
  have C1 := C1.ext x2
  refine rt_ret ⟨_, rfl, ifP_of (fun h1 => ?_) (fun h1 => ?_)⟩
  rotate_left
  · have no : ¬ ∃ v, v < n ∧ 0 < ex' v := fun h => by rw [ht.2 h] at h1; cases h1
    have ex0 := S.done E no
    let I2 : Unit → H → Nat → Prop := fun _ q z => ∃ (ow : Own) (room' ex' pot' : Nat → Int), z = (totC m (fun i => cost (2 * i)) (onR room') + m * (1048576 * 1048576)).toNat ∧ Fm [3, 6, 7, 20, 21, 22] own h ow q ∧ MS ow q bn n m fr to cap b cost room' ex' pot' ∧ B1 ow q 9 b1 [.pointer (some (bk bn))] ∧ (∀ v, v < n → ex' v = 0)
    refine ⟨fun p q => ∃ k, I2 p q k, rk I2, rk_wf I2, ⟨_, ow, room', ex', pot, rfl, F0, S, C1, ex0⟩, ?_⟩
    clear F0 S C1 ex0 hz hkk no h1 ht
    intro q hI
    obtain ⟨ow, room', ex', pot', hz, F0, S, C1, ex0⟩ := mu_spec hI
    generalize hkk : mu I2 ((), q) = km at *
    clear hI
    refine C1.ldN rfl ((turn_T S E hk hcost).mono ?_)
    rintro _ q3 ⟨ow2, F1, ⟨rfl, pot2, S2, red, pb⟩ | ⟨rfl, _, room2, ex2, pot2, S2, hex, hlt⟩⟩
    · refine rt_ret ⟨_, rfl, ifP_of (fun h => by cases h) (fun _ => ?_)⟩
      exact ⟨ow2, (F0.trans F1).mono (by simp), .inl ⟨rfl, room', ex', pot2, S2, ex0, red, fun v hv => by have := pb v hv; omega⟩⟩
    · refine rt_ret ⟨_, rfl, ifP_of (fun _ => ?_) (fun h => by cases h)⟩
      have b1 := (totC_bd (m := m) (k := fun i => cost (2 * i)) (f := onR room2) (C := 1048576) (X := 1048576) (by omega) (by omega) (fun i hi => hcb (2 * i) (by omega)) (S2.rm.onb fun i hi => (E.cp i hi).2)).1
      refine mu_next (I := I2) ⟨ow2, room2, ex2, pot2, rfl, F0.trans F1, S2, C1.fm F1 (by simp), fun v hv => by rw [hex v]; exact ex0 v hv⟩ ?_
      rw [hkk, hz]
      generalize totC m (fun i => cost (2 * i)) (onR room2) = t2 at *
      generalize totC m (fun i => cost (2 * i)) (onR room') = t1 at *
      omega
  have hsome := ht.1 h1
  clear ht h1
  obtain ⟨vf, vt, vr, vc, vo, vx, vp, outs, k8, k1, k2, k3, k4, k5, k6, k7, ko⟩ := S.net.q
  refine ⟨_, C1.ld0 rfl, ptrP_mk ⟨_, k8.ld rfl, k5.len (va_length _ _) fun _ _ => mk_ints 20 (by omega) (by omega) ?_⟩⟩
  intro b9 q9 hb9 x9 S9
  have kV := S9 ow
  have F9 : Fm [3, 6, 7, 20, 21, 22] ow q2 (own1 ow b9 20) q9 := Fm.new x9 hb9
  have S := S.fm (M := []) (Fm.new (i := 20) x9 hb9) (by simp)
  have C1 := C1.nw (j := 20) x9 hb9
  have k1 := k1.nw (j := 20) x9 hb9
  have k2 := k2.nw (j := 20) x9 hb9
  have k3 := k3.nw (j := 20) x9 hb9
  have k4 := k4.nw (j := 20) x9 hb9
  have k5 := k5.nw (j := 20) x9 hb9
  have k6 := k6.nw (j := 20) x9 hb9
  have k7 := k7.nw (j := 20) x9 hb9
  have k8 := k8.nw (j := 20) x9 hb9
  have ko := fun v hv => (ko v hv).nw (j := 20) x9 hb9
  have F0 := F0.trans F9
  generalize own1 ow b9 20 = ow at *
  clear S9 F9
  refine ⟨_, C1.ld0 rfl, ptrP_mk ⟨_, k8.ld rfl, k5.len (va_length _ _) fun _ _ => mk_bools 22 (by omega) (by omega) ?_⟩⟩
  intro b24 q24 hb24 x24 S24
  have kS := S24 ow
  have F9 : Fm [3, 6, 7, 20, 21, 22] ow q9 (own1 ow b24 22) q24 := Fm.new x24 hb24
  have S := S.fm (M := []) (Fm.new (i := 22) x24 hb24) (by simp)
  have C1 := C1.nw (j := 22) x24 hb24
  have kV := kV.nw (j := 22) x24 hb24
  have k1 := k1.nw (j := 22) x24 hb24
  have k2 := k2.nw (j := 22) x24 hb24
  have k3 := k3.nw (j := 22) x24 hb24
  have k4 := k4.nw (j := 22) x24 hb24
  have k5 := k5.nw (j := 22) x24 hb24
  have k6 := k6.nw (j := 22) x24 hb24
  have k7 := k7.nw (j := 22) x24 hb24
  have k8 := k8.nw (j := 22) x24 hb24
  have ko := fun v hv => (ko v hv).nw (j := 22) x24 hb24
  have F0 := F0.trans F9
  generalize own1 ow b24 22 = ow at *
  clear S24 F9
  simp only [Int.toNat_natCast]
  refine ⟨_, C1.ld0 rfl, ptrP_mk ⟨_, k8.ld rfl, k6.len (ints_length _ _) fun _ _ => ?_⟩⟩
  -- from here on the net stands
  let I3 : (Value × Int × Unit) → H → Nat → Prop := fun p q z => ∃ (j : Nat) (ow' : Own) (via : Nat → Int) (sd : Nat → Bool) (Q : List Nat), p.2.1 = j ∧ j ≤ n ∧ z = n - j ∧ Fm [20, 21, 22] ow q24 ow' q ∧ S1 ow' q 20 (slV b9 n) (ints n via) ∧ S1 ow' q 22 (slV b24 n) (bools n sd) ∧ S1 ow' q 21 p.1 (natV Q) ∧
    (Q.length : Int) + unm n sd ≤ n ∧ (∀ v, sd v = true ↔ v < j ∧ 0 < ex' v) ∧ (∀ v, v ∈ Q ↔ v < j ∧ 0 < ex' v) ∧ (∀ v, v < j → via v = -1)
  refine ⟨fun p q => ∃ k, I3 p q k, rk I3, rk_wf I3, ⟨_, 0, ow, _, _, [], rfl, by omega, rfl, Fm.refl, kV, kS, S1.nil, ?_, fun v => by simp, fun v => by simp, fun v hv => by omega⟩, ?_⟩
  · have := cntP_all (n := n) (P := fun v => (fun _ => false) v = false)
    unfold unm; simpa using this
  clear kV kS
  intro qu p q3 hI
  obtain ⟨j, ow', via, sd, Q, e1, hj, hz3, F1, kV, kS, kQ, hlen, hsd, hQ, hvia⟩ := mu_spec hI
  generalize hkk3 : mu I3 ((qu, p, ()), q3) = km3 at *
  change p = (j : Int) at e1
  change S1 ow' q3 21 qu (natV Q) at kQ
  subst e1
  have hlt : j < n → n - (j + 1) < mu I3 ((qu, (j : Int), ()), q3) := fun h => by rw [hkk3, hz3]; exact sub_dec h
  clear hI
  have hun : 0 ≤ unm n sd := cntP_nn
  refine ifP_of (fun h1 => ?_) (fun h1 => ?_)
  · have hjn : j < n := by have := of_decide_eq_true h1; omega
    rw [i64_inc (by omega)]
    refine (k6.fm F1 (by simp)).rdI hjn (kV.setI hjn fun g F2 kV => ?_)
    have kS := kS.fm F2 (by simp <;> omega)
    have kQ := kQ.fm F2 (by simp <;> omega)
    have F1 := F1.trans (F2.mono (by simp))
    have hv' : ∀ v, v < j + 1 → upd via j (-1) v = -1 := fun v hv => by
      by_cases e : v = j
      · subst e; exact upd_at
      · rw [upd_ne e]; exact hvia v (by omega)
    refine ifP_of (fun h2 => ?_) (fun h2 => ?_)
    · have h2 := of_decide_eq_true h2
      have hf : sd j = false := by
        cases e : sd j
        · rfl
        · have := (hsd j).1 e; omega
      have hu := unm_set hjn hf
      refine kS.setB hjn fun g F2 kS => ?_
      have kV := kV.fm F2 (by simp <;> omega)
      have kQ := kQ.fm F2 (by simp <;> omega)
      have F1 := F1.trans (F2.mono (by simp))
      refine kQ.push (l := 1) rfl (by simp [Value.oneCell']) (by simp) (by omega) (by rw [natV_length]; omega) ?_
      intro bx hm2 p' ow2 q' hbx xm F2 kQ
      have kV := kV.fm F2 (by simp <;> omega)
      have kS := kS.fm F2 (by simp <;> omega)
      have F1 := F1.trans (F2.mono (by simp))
      refine mu_next (I := I3) (k := n - (j + 1)) ⟨j + 1, ow2, _, _, Q ++ [j], rfl, hjn, rfl, F1, kV, kS, by simpa [natV] using kQ, ?_, fun v => ?_, fun v => ?_, hv'⟩ (hlt hjn)
      · simp only [List.length_append, List.length_cons, List.length_nil]; omega
      · unfold updB
        by_cases e : v = j
        · subst e; simp [h2]
        · rw [if_neg e, hsd v]; constructor <;> (rintro ⟨a, b⟩; exact ⟨by omega, b⟩)
      · rw [List.mem_append, hQ v, List.mem_singleton]
        constructor
        · rintro (⟨a, b⟩ | rfl)
          · exact ⟨by omega, b⟩
          · exact ⟨by omega, h2⟩
        · rintro ⟨a, b⟩
          by_cases e : v = j
          · exact .inr e
          · exact .inl ⟨by omega, b⟩
    · have h2 := of_decide_eq_false h2
      refine mu_next (I := I3) (k := n - (j + 1)) ⟨j + 1, ow', _, sd, Q, rfl, hjn, rfl, F1, kV, kS, kQ, hlen, fun v => ?_, fun v => ?_, hv'⟩ (hlt hjn)
      · rw [hsd v]
        by_cases e : v = j
        · subst e; constructor <;> (rintro ⟨a, b⟩; exact absurd b h2)
        · constructor <;> (rintro ⟨a, b⟩; exact ⟨by omega, b⟩)
      · rw [hQ v]
        by_cases e : v = j
        · subst e; constructor <;> (rintro ⟨a, b⟩; exact absurd b h2)
        · constructor <;> (rintro ⟨a, b⟩; exact ⟨by omega, b⟩)
  have : j = n := by have := of_decide_eq_false h1; omega
  subst this
  have B0 : BfP j m fr to room' ex' sd via Q (fun _ => 0) := ⟨fun v hv => ⟨((hQ v).1 hv).1, (hsd v).2 ((hQ v).1 hv)⟩, fun v hv => (hQ v).2 ((hsd v).1 hv), fun v hv => .inl ⟨hvia v ((hsd v).1 hv).1, ((hsd v).1 hv).2⟩, fun v hv => by have := ((hsd v).1 hv).2; omega, hlen, fun v hv hx => (hsd v).2 ⟨hv, hx⟩, fun v _ => by omega⟩
  clear hlt hkk3 hz3 h1 hj hun hlen hsd hQ hvia
  refine ⟨fun p q => ∃ (ow' : Own) (via : Nat → Int), Fm [20, 21, 22] ow q24 ow' q ∧ S1 ow' q 20 (slV b9 j) (ints j via) ∧ SrP j m fr to room' ex' via p.1, ?_, ?_⟩
  · let I5 : (Value × Int × Int × Unit) → H → Nat → Prop := fun p q z => ∃ (i : Nat) (ow' : Own) (via : Nat → Int) (sd : Nat → Bool) (Q : List Nat) (rk : Nat → Nat), p.2.1 = -1 ∧ p.2.2.1 = i ∧ i ≤ Q.length ∧ z = j - i ∧ Fm [20, 21, 22] ow q24 ow' q ∧ S1 ow' q 20 (slV b9 j) (ints j via) ∧ S1 ow' q 22 (slV b24 j) (bools j sd) ∧ S1 ow' q 21 p.1 (natV Q) ∧
      BfP j m fr to room' ex' sd via Q rk ∧ ∀ v ∈ Q.take i, ∀ a, a < 2 * m → tlA fr to a = v → 0 < room' a → sd (hdA fr to a) = true
    refine ⟨fun p q => ∃ k, I5 p q k, Go.Proofs.YtjlojokockfapaaGreatDoor.rk I5, rk_wf I5, ⟨_, 0, ow', via, sd, Q, _, rfl, rfl, by omega, rfl, F1, kV, kS, kQ, B0, by simp⟩, ?_⟩
    clear F1 kV kS kQ B0 ow' via sd Q
    intro qu fnd p q5 hI
    obtain ⟨i, ow', via, sd, Q, rk, e1, e2, hi, hz5, F1, kV, kS, kQ, B, hcl⟩ := mu_spec hI
    generalize hkk5 : mu I5 ((qu, fnd, p, ()), q5) = km5 at *
    change fnd = -1 at e1
    change p = (i : Int) at e2
    change S1 ow' q5 21 qu (natV Q) at kQ
    subst e1 e2
    have hlt : i < j → j - (i + 1) < mu I5 ((qu, (-1 : Int), (i : Int), ()), q5) := fun h => by rw [hkk5, hz5]; exact sub_dec h
    clear hI
    have hun : 0 ≤ unm j sd := cntP_nn
    have hlen := B.len
    refine kQ.len (natV_length _) fun _ _ => ifP_of (fun h1 => ?_) (fun h1 => ?_)
    · have hiQ : i < Q.length := by have := of_decide_eq_true h1; omega
      obtain ⟨v, hv⟩ : ∃ v, v = Q[i] := ⟨_, rfl⟩
      have hvQ := B.qs v (by rw [hv]; exact List.getElem_mem hiQ)
      have htk : Q.take (i + 1) = Q.take i ++ [v] := by rw [hv, List.take_succ_eq_append_getElem hiQ]
      refine kQ.rd (natV_get hiQ) ?_
      rw [← hv]
      refine ⟨_, (C1.fm F1 (by simp)).ld0 rfl, ptrP_mk ⟨_, (k8.fm F1 (by simp)).ld rfl, (k5.fm F1 (by simp)).rdV hvQ.1 (((ko v hvQ.1).fm F1 (by simp; omega)).len (natV_length _) fun _ _ => ?_)⟩⟩
      let I6 : (Value × Int × Int × Unit) → H → Nat → Prop := fun p q z => ∃ (s : Nat) (ow' : Own) (via : Nat → Int) (sd : Nat → Bool) (Q' : List Nat) (rk : Nat → Nat), p.2.1 = -1 ∧ p.2.2.1 = s ∧ s ≤ (arcsL fr to m v).length ∧ z = (arcsL fr to m v).length - s ∧ Fm [20, 21, 22] ow q24 ow' q ∧ S1 ow' q 20 (slV b9 j) (ints j via) ∧ S1 ow' q 22 (slV b24 j) (bools j sd) ∧ S1 ow' q 21 p.1 (natV Q') ∧
        BfP j m fr to room' ex' sd via Q' rk ∧ (∀ v ∈ Q.take i, ∀ a, a < 2 * m → tlA fr to a = v → 0 < room' a → sd (hdA fr to a) = true) ∧ (∃ W, Q' = Q ++ W) ∧ sd v = true ∧ (∀ a ∈ (arcsL fr to m v).take s, 0 < room' a → sd (hdA fr to a) = true)
      refine ⟨fun p q => ∃ k, I6 p q k, Go.Proofs.YtjlojokockfapaaGreatDoor.rk I6, rk_wf I6, ⟨_, 0, ow', via, sd, Q, rk, rfl, rfl, by omega, rfl, F1, kV, kS, kQ, B, hcl, ⟨[], by simp⟩, hvQ.2, by simp⟩, ?_⟩
      clear F1 kV kS kQ B hcl hun hlen
      intro qu2 fnd2 p2 q6 hI
      obtain ⟨s, ow', via, sd, Q', rk, e1, e2, hs, hz6, F1, kV, kS, kQ, B, hcl, hW, hvs, hdone⟩ := mu_spec hI
      generalize hkk6 : mu I6 ((qu2, fnd2, p2, ()), q6) = km6 at *
      change fnd2 = -1 at e1
      change p2 = (s : Int) at e2
      change S1 ow' q6 21 qu2 (natV Q') at kQ
      subst e1 e2
      have hlt2 : s < (arcsL fr to m v).length → (arcsL fr to m v).length - (s + 1) < mu I6 ((qu2, (-1 : Int), (s : Int), ()), q6) := fun h => by rw [hkk6, hz6]; exact sub_dec h
      clear hI
      have hun : 0 ≤ unm j sd := cntP_nn
      have hlen := B.len
      have hal := arcsL_length (fr := fr) (to := to) (v := v) (i := m)
      refine ifP_of (fun h3 => ?_) (fun h3 => ?_)
      · have hsl : s < (arcsL fr to m v).length := by have := of_decide_eq_true h3; omega
        obtain ⟨a, ha⟩ : ∃ a, a = (arcsL fr to m v)[s] := ⟨_, rfl⟩
        have ham := mem_arcsL.1 (show a ∈ arcsL fr to m v by rw [ha]; exact List.getElem_mem hsl)
        have htk2 : (arcsL fr to m v).take (s + 1) = (arcsL fr to m v).take s ++ [a] := by rw [ha, List.take_succ_eq_append_getElem hsl]
        have hd := hd_lt E.e ham.1
        have hra := S.rm.pos a ham.1
        refine ((ko v hvQ.1).fm F1 (by simp; omega)).rd (natV_get hsl) ?_
        rw [← ha, i64_inc (by omega)]
        have step : (¬ 0 < room' a ∨ sd (hdA fr to a) = true) → ∀ c ∈ (arcsL fr to m v).take (s + 1), 0 < room' c → sd (hdA fr to c) = true := fun hx c hc hr => by
          rw [htk2] at hc
          rcases List.mem_append.1 hc with k | k
          · exact hdone c k hr
          · have : c = a := by simpa using k
            subst this
            rcases hx with hx | hx
            · exact absurd hr hx
            · exact hx
        refine ⟨_, (C1.fm F1 (by simp)).ld0 rfl, ptrP_mk ⟨_, (k8.fm F1 (by simp)).ld rfl, (k2.fm F1 (by simp)).rdI ham.1 ⟨_, (C1.fm F1 (by simp)).ld0 rfl, ptrP_mk ⟨_, (k8.fm F1 (by simp)).ld rfl, (k3.fm F1 (by simp)).rdI ham.1 (ifP_of (fun h4 => ?_) (fun h4 => ?_))⟩⟩⟩⟩
        · have h4 := of_decide_eq_true h4
          exact mu_next (I := I6) (k := (arcsL fr to m v).length - (s + 1)) ⟨s + 1, ow', via, sd, Q', rk, rfl, rfl, hsl, rfl, F1, kV, kS, kQ, B, hcl, hW, hvs, step (.inl (by omega))⟩ (hlt2 hsl)
        · have h4 := of_decide_eq_false h4
          refine kS.rdB hd (ifP_of (fun h5 => ?_) (fun h5 => ?_))
          · exact mu_next (I := I6) (k := (arcsL fr to m v).length - (s + 1)) ⟨s + 1, ow', via, sd, Q', rk, rfl, rfl, hsl, rfl, F1, kV, kS, kQ, B, hcl, hW, hvs, step (.inr h5)⟩ (hlt2 hsl)
          · have hts : sd (tlA fr to a) = true := by rw [ham.2]; exact hvs
            have hrp : 0 < room' a := by omega
            refine kS.setB hd fun g F2 kS => ?_
            have kV := kV.fm F2 (by simp <;> omega)
            have kQ := kQ.fm F2 (by simp <;> omega)
            have F1 := F1.trans (F2.mono (by simp))
            refine kV.setI hd fun g F2 kV => ?_
            have kS := kS.fm F2 (by simp <;> omega)
            have kQ := kQ.fm F2 (by simp <;> omega)
            have F1 := F1.trans (F2.mono (by simp))
            refine ⟨_, (C1.fm F1 (by simp)).ld0 rfl, ptrP_mk ⟨_, (k8.fm F1 (by simp)).ld rfl, (k6.fm F1 (by simp)).rdI hd (ifP_of (fun h6 => ?_) (fun h6 => ?_))⟩⟩
            · have h6 := of_decide_eq_true h6
              obtain ⟨y, L, y0, W, w2, _⟩ := way_of (n := j) (ex := ex') (fr := fr) (to := to) (m := m) (room := room') (via := upd via (hdA fr to a) a) (A := fun w => updB sd (hdA fr to a) true w = true) (rk := updN rk (hdA fr to a) (Q'.length + 1)) (fun w hw => ⟨by
                by_cases e : w = hdA fr to a
                · subst e; exact hd
                · exact (B.qs w (B.sq w (by unfold updB at hw; rwa [if_neg e] at hw))).1, B.see ham.1 hts hrp h5 w hw⟩) _ (hdA fr to a) (by unfold updB; simp) (Nat.lt_succ_self _)
              exact ⟨ow', _, F1, kV, .inr ⟨hdA fr to a, y, L, rfl, hd, h6, y0, W, w2⟩⟩
            · have h6 := of_decide_eq_false h6
              refine kQ.push (l := 1) rfl (by simp [Value.oneCell']) (by simp) (by omega) (by rw [natV_length]; omega) ?_
              intro bx hm2 p' ow2 q' hbx xm F2 kQ
              have kV := kV.fm F2 (by simp <;> omega)
              have kS := kS.fm F2 (by simp <;> omega)
              have F1 := F1.trans (F2.mono (by simp))
              obtain ⟨W, hW⟩ := hW
              refine mu_next (I := I6) (k := (arcsL fr to m v).length - (s + 1)) ⟨s + 1, ow2, _, _, Q' ++ [hdA fr to a], _, rfl, rfl, hsl, rfl, F1, kV, kS, by simpa [natV] using kQ, B.push ham.1 hts hrp h5 hd (by omega), fun w hw c hc ht hr => updB_mono (hcl w hw c hc ht hr), ⟨W ++ [hdA fr to a], by rw [hW, List.append_assoc]⟩, updB_mono hvs, fun c hc hr => ?_⟩ (hlt2 hsl)
              rw [htk2] at hc
              rcases List.mem_append.1 hc with k | k
              · exact updB_mono (hdone c k hr)
              · have : c = a := by simpa using k
                subst this; unfold updB; simp
      · have : s = (arcsL fr to m v).length := by have := of_decide_eq_false h3; omega
        subst this
        rw [List.take_length] at hdone
        obtain ⟨W, hW⟩ := hW
        have hl2 : i + 1 ≤ Q'.length := by rw [hW, List.length_append]; omega
        rw [i64_inc (by omega)]
        refine mu_next (I := I5) (k := j - (i + 1)) ⟨i + 1, ow', via, sd, Q', rk, rfl, rfl, hl2, rfl, F1, kV, kS, kQ, B, fun w hw c hc ht hr => ?_⟩ (hlt (by omega))
        have e : Q'.take (i + 1) = Q.take i ++ [v] := by rw [← htk, hW, List.take_append_of_le_length (by omega)]
        rw [e] at hw
        rcases List.mem_append.1 hw with k | k
        · exact hcl w k c hc ht hr
        · have : w = v := by simpa using k
          subst this; exact hdone c (mem_arcsL.2 ⟨hc, ht⟩) hr
    · have hiQ : i = Q.length := by have := of_decide_eq_false h1; omega
      subst hiQ
      rw [List.take_length] at hcl
      refine ⟨ow', via, F1, kV, .inl ⟨rfl, fun u v hu hx r => B.ok v (r.closed (C := fun w => sd w = true) (B.src u hu hx) fun x w hx hxw => ?_)⟩⟩
      obtain ⟨a, a1, a2, a3, a4⟩ := hxw
      rw [← a3]; exact hcl x (B.sq x hx) a a1 a2 a4
  · clear F1 kV kS kQ B0
    rintro fnd q7 ⟨ow3, via2, F1, kV, hsr⟩
    change SrP j m fr to room' ex' via2 fnd at hsr
    have S := S.fm F1 (by simp)
    have C1 := C1.fm F1 (by simp <;> omega)
    have F0 := F0.trans (F1.mono (by simp))
    rcases hsr with ⟨rfl, no⟩ | ⟨f, y, L, rfl, fn, fx, y0, W, yL⟩
    · refine ifP_of (fun _ => ?_) (fun h => by simp at h)
      refine ⟨_, C1.ld0 rfl, (reached_T S.net E.e hn1 hm1).mono ?_⟩
      rintro _ q8 ⟨bs, sd, rfl, hbs, x4, sS, hsd⟩
      exact rt_ret (oneP_mk ⟨ow3, (F0.trans (Fm.of_ext x4)).mono (by simp), .inr ⟨bs, sd, rfl, F0.none hbs, sS, S.lack E hsd no hsome⟩⟩)
    · refine ifP_of (fun h => by have := of_decide_eq_true h; omega) (fun _ => ⟨_, C1.ld0 rfl, ?_⟩)
      rw [← y0]
      refine (carry_T S.net E.e hm1 S.rm (fun i hi => (E.cp i hi).2) (fun v hv => by have := S.exb E hv; omega) kV (by omega) W (by rw [y0]; exact fx) yL).mono ?_
      rintro _ q5 ⟨rfl, x, room2, ex2, X0, X1, X2, F5, N, R, hex, hout, hnew⟩
      have S2 : MS ow3 q5 bn j m fr to cap b cost room2 ex2 pot := ⟨N, R, fun v hv => by have := S.bal v hv; have := hout v; omega⟩
      have posE := posS_carry (ex := ex') (ex' := ex2) (W.lt L (Nat.le_refl _)) X1 X0 (show ex' (y 0) ≤ - x by omega) hex
      have pos2 := posS_nn (n := j) (ex := ex2)
      refine rt_ret ⟨rfl, mu_next (I := I) (k := (posS j ex2).toNat) ⟨ow3, room2, ex2, rfl, F0.trans (F5.mono (by simp)), S2, C1.fm F5 (by simp)⟩ (by rw [hkk, hz]; omega)⟩
end

end Go.Proofs.YtjlojokockfapaaGreatDoor

namespace Go.Proofs.YtjlojokockfapaaGreatDoor
open Go
open Classical
set_option linter.unusedVariables false
set_option linter.unusedSimpArgs false

theorem Rch.path {R : Nat → Nat → Prop} {u v : Nat} (r : Rch R u v) : ∃ (L : Nat) (y : Nat → Nat), y 0 = u ∧ y L = v ∧ ∀ s, s < L → R (y s) (y (s + 1)) := by
  induction r with
  | refl => exact ⟨0, fun _ => u, rfl, rfl, fun s hs => by omega⟩
  | @step b c _ k ih =>
    obtain ⟨L, y, y0, yL, hy⟩ := ih
    refine ⟨L + 1, fun s => if s ≤ L then y s else c, by simp [y0], if_neg (by omega), fun s hs => ?_⟩
    by_cases e : s = L
    · subst e
      have h1 : ¬ s + 1 ≤ s := by omega
      simp only [Nat.le_refl, h1, if_true, if_false]
      rw [yL]; exact k
    · have h1 : s ≤ L := by omega
      have h2 : s + 1 ≤ L := by omega
      simp only [h1, h2, if_true]
      exact hy s (by omega)
theorem short_path {n : Nat} {R : Nat → Nat → Prop} {u v : Nat} (hn : ∀ a b, R a b → b < n) (hu : u < n) (r : Rch R u v) : ∃ (L : Nat) (y : Nat → Nat), L < n ∧ y 0 = u ∧ y L = v ∧ ∀ s, s < L → R (y s) (y (s + 1)) := by
  obtain ⟨L, ⟨y, y0, yL, hy⟩, hmin⟩ := least (P := fun L => ∃ y : Nat → Nat, y 0 = u ∧ y L = v ∧ ∀ s, s < L → R (y s) (y (s + 1))) r.path
  refine ⟨L, y, ?_, y0, yL, hy⟩
  apply Classical.byContradiction
  intro hL
  have hlt : ∀ i, i ≤ n → y i < n := fun i hi => by
    cases i with
    | zero => rw [y0]; exact hu
    | succ i => exact hn _ _ (hy i (by omega))
  obtain ⟨i, j, h1, h2, h3⟩ := pigeon hlt
  have := hmin (L - (j - i)) ⟨fun s => if s ≤ i then y s else y (s + (j - i)), by simp [y0], ?_, fun s hs => ?_⟩
  · omega
  · by_cases e : L - (j - i) ≤ i
    · have e2 : L - (j - i) = i := by omega
      simp only [e2, Nat.le_refl, if_true]
      rw [h3, ← yL]
      congr 1; omega
    · simp only [e, if_false]
      rw [← yL]
      congr 1; omega
  · by_cases e : s = i
    · subst e
      have h4 : ¬ s + 1 ≤ s := by omega
      simp only [Nat.le_refl, h4, if_true, if_false]
      rw [h3, show s + 1 + (j - s) = j + 1 by omega]
      exact hy j (by omega)
    · by_cases e2 : s ≤ i
      · have h4 : s + 1 ≤ i := by omega
        simp only [e2, h4, if_true]
        exact hy s (by omega)
      · have h4 : ¬ s + 1 ≤ i := by omega
        simp only [e2, h4, if_false]
        rw [show s + 1 + (j - i) = s + (j - i) + 1 by omega]
        exact hy _ (by omega)
section
variable {n m : Nat} {fr to : Nat → Nat} {cap b cost room room0 ex pot pot0 : Nat → Int} {w e0 : Int}
/-- From where there is too much a way leads to where something lacks, along what differs from a plan. -/
theorem lack_way (R : RmP m cap room) (R0 : RmP m cap room0) (hn : ∀ i, i < m → fr i < n ∧ to i < n) (h : ∀ v, v < n → OutF m fr to (onR room0) v - OutF m fr to (onR room) v = ex v) {v : Nat} (hv : v < n) (hx : 0 < ex v) :
    ∃ (L : Nat) (y : Nat → Nat), L < n ∧ y 0 = v ∧ y L < n ∧ ex (y L) < 0 ∧ ∀ s, s < L → ∃ a, a < 2 * m ∧ tlA fr to a = y s ∧ hdA fr to a = y (s + 1) ∧ 0 < room a ∧ 0 < room0 (prA a) := by
  let D : Nat → Nat → Prop := fun u w => ∃ a, a < 2 * m ∧ tlA fr to a = u ∧ hdA fr to a = w ∧ 0 < room a ∧ 0 < room0 (prA a)
  have hD : ∀ a b, D a b → b < n := fun a b ⟨c, h1, _, h3, _⟩ => by rw [← h3]; exact hd_lt hn h1
  by_cases e : ∃ u, Rch D v u ∧ u < n ∧ ex u < 0
  · obtain ⟨u, r, un, ux⟩ := e
    obtain ⟨L, y, h1, h2, h3, h4⟩ := short_path hD hv r
    exact ⟨L, y, h1, h2, by rw [h3]; exact un, by rw [h3]; exact ux, h4⟩
  exfalso
  have hC : ∀ u, u < n → Rch D v u → 0 ≤ ex u := fun u hu r => by
    apply Classical.byContradiction
    intro h2; exact e ⟨u, r, hu, by omega⟩
  have e1 := out_side (f := onR room0) hn (fun u => Rch D v u)
  have e2 := out_side (f := onR room) hn (fun u => Rch D v u)
  have e3 : sumN n (fun u => if Rch D v u then ex u else 0) = sumN n (fun u => if Rch D v u then OutF m fr to (onR room0) u else 0) - sumN n (fun u => if Rch D v u then OutF m fr to (onR room) u else 0) := by
    rw [← sumN_sub]
    refine sumN_congr fun u hu => ?_
    have := h u hu
    split <;> omega
  have e4 : sumN m (fun i => ((if Rch D v (fr i) then onR room0 i else 0) - (if Rch D v (to i) then onR room0 i else 0)) - ((if Rch D v (fr i) then onR room i else 0) - (if Rch D v (to i) then onR room i else 0))) ≤ sumN m fun _ => 0 := sumN_le fun i hi => by
    have s1 := R.sum i hi
    have s2 := R0.sum i hi
    have p1 := R.pos (2 * i) (by omega)
    have p2 := R.pos (2 * i + 1) (by omega)
    have p3 := R0.pos (2 * i) (by omega)
    have p4 := R0.pos (2 * i + 1) (by omega)
    have pe : prA (2 * i) = 2 * i + 1 := by unfold prA; rw [if_pos (by omega)]
    have po : prA (2 * i + 1) = 2 * i := by unfold prA; rw [if_neg (by omega)]; omega
    unfold onR
    by_cases c1 : Rch D v (fr i) <;> by_cases c2 : Rch D v (to i)
    · simp only [c1, c2, if_true]; omega
    · simp only [c1, c2, if_true, if_false]
      have : ¬ (0 < room (2 * i) ∧ 0 < room0 (2 * i + 1)) := fun ⟨a, b⟩ => c2 (c1.step ⟨2 * i, by omega, tlA_0 i, hdA_0 i, a, by rw [pe]; exact b⟩)
      omega
    · simp only [c1, c2, if_true, if_false]
      have : ¬ (0 < room (2 * i + 1) ∧ 0 < room0 (2 * i)) := fun ⟨a, b⟩ => c1 (c2.step ⟨2 * i + 1, by omega, tlA_1 i, hdA_1 i, a, by rw [po]; exact b⟩)
      omega
    · simp only [c1, c2, if_false]; omega
  rw [sumN_sub, ← e1, ← e2, ← e3, sumN_zero (fun _ _ => rfl)] at e4
  have := sumN_mem (f := fun u => if Rch D v u then ex u else 0) (k := n) (i := v) (fun u hu => by
    show 0 ≤ if Rch D v u then ex u else 0
    by_cases c : Rch D v u
    · rw [if_pos c]; exact hC u hu c
    · rw [if_neg c]; omega) hv
  rw [if_pos Rch.refl] at this
  omega
/-- Potentials on the way of refine: no arc with room costs less than -w; none that lacks was lowered. -/
structure RfP (n m : Nat) (fr to : Nat → Nat) (cost pot0 : Nat → Int) (w B : Int) (room ex pot : Nat → Int) : Prop where
  ge : ∀ a, a < 2 * m → 0 < room a → -w ≤ redC fr to cost pot a
  lo : ∀ v, v < n → pot0 v - B ≤ pot v ∧ pot v ≤ pot0 v
  ng : ∀ v, v < n → ex v < 0 → pot v = pot0 v
/-- What refine starts from. -/
structure Rf0 (n m : Nat) (fr to : Nat → Nat) (cap b cost room0 pot0 : Nat → Int) (w e0 : Int) : Prop where
  rm : RmP m cap room0
  out : ∀ v, v < n → OutF m fr to (onR room0) v = b v
  ge : ∀ a, a < 2 * m → 0 < room0 a → -e0 ≤ redC fr to cost pot0 a
  w1 : 1 ≤ w
  e1 : 0 ≤ e0
  pr : ∀ a, a < 2 * m → cost (prA a) = - cost a
  cb : ∀ a, a < 2 * m → -1125899906842624 ≤ cost a ∧ cost a ≤ 1125899906842624
  pb : ∀ v, v < n → n * (w + e0) - 281474976710656 ≤ pot0 v ∧ pot0 v ≤ 0
theorem pot_way (Z : Rf0 n m fr to cap b cost room0 pot0 w e0) (ge : ∀ a, a < 2 * m → 0 < room a → -w ≤ redC fr to cost pot a) {y : Nat → Nat} {L : Nat}
    (hy : ∀ s, s < L → ∃ a, a < 2 * m ∧ tlA fr to a = y s ∧ hdA fr to a = y (s + 1) ∧ 0 < room a ∧ 0 < room0 (prA a)) : ∀ s, s ≤ L → pot (y s) - pot0 (y s) - s * (w + e0) ≤ pot (y 0) - pot0 (y 0) := by
  intro s
  induction s with
  | zero => intro _; simp
  | succ s ih =>
    intro hs
    have := ih (by omega)
    obtain ⟨a, h1, h2, h3, h4, h5⟩ := hy s (by omega)
    have g1 := ge a h1 h4
    have g2 := Z.ge _ (prA_lt h1) h5
    rw [redC_pr (Z.pr a h1) h1] at g2
    unfold redC at g1 g2
    rw [h2, h3] at g1 g2
    have e : ((s + 1 : Nat) : Int) * (w + e0) = s * (w + e0) + (w + e0) := by rw [Int.natCast_add, Int.add_mul]; simp
    rw [e]
    generalize (s : Int) * (w + e0) = P at *
    omega
theorem Rf0.low (Z : Rf0 n m fr to cap b cost room0 pot0 w e0) (hn : ∀ i, i < m → fr i < n ∧ to i < n) (R : RmP m cap room) (bal : ∀ v, v < n → ex v + OutF m fr to (onR room) v = b v)
    (ge : ∀ a, a < 2 * m → 0 < room a → -w ≤ redC fr to cost pot a) (ng : ∀ v, v < n → ex v < 0 → pot v = pot0 v) {v : Nat} (hv : v < n) (hx : 0 < ex v) :
    pot0 v - n * (w + e0) ≤ pot v ∧ ∃ a, a < 2 * m ∧ tlA fr to a = v ∧ 0 < room a := by
  obtain ⟨L, y, h1, h2, h3, h4, h5⟩ := lack_way (ex := ex) R Z.rm hn (fun u hu => by have := bal u hu; have := Z.out u hu; omega) hv hx
  constructor
  · have := pot_way Z ge h5 L (Nat.le_refl _)
    rw [h2, ng _ h3 h4] at this
    have w1 := Z.w1
    have e1 := Z.e1
    have h6 : (L : Int) * (w + e0) ≤ n * (w + e0) := Int.mul_le_mul_of_nonneg_right (by omega) (by omega)
    generalize (L : Int) * (w + e0) = P at *
    generalize (n : Int) * (w + e0) = Q at *
    omega
  · cases L with
    | zero => rw [h2] at h4; omega
    | succ L =>
      obtain ⟨a, g1, g2, g3, g4, g5⟩ := h5 0 (by omega)
      exact ⟨a, g1, by rw [g2, h2], g4⟩
/-- The measure: potentials first, then the cost by them. -/
def Zr (n m : Nat) (fr to : Nat → Nat) (cost pot0 : Nat → Int) (B : Int) (room pot : Nat → Int) : Int :=
  sumN n (fun v => pot v - pot0 v + B) * 19342813113834066795298817 + (totC m (fun i => redC fr to cost pot (2 * i)) (onR room) + 9671406556917033397649408)
section
variable {B : Int}
theorem redC_bd (cb : ∀ a, a < 2 * m → -1125899906842624 ≤ cost a ∧ cost a ≤ 1125899906842624) (pb : ∀ v, v < n → -281474976710656 ≤ pot v ∧ pot v ≤ 0) (hn : ∀ i, i < m → fr i < n ∧ to i < n) {a : Nat} (ha : a < 2 * m) :
    -2251799813685248 ≤ redC fr to cost pot a ∧ redC fr to cost pot a ≤ 2251799813685248 := by
  have c := cb a ha
  have p1 := pb _ (tl_lt hn ha)
  have p2 := pb _ (hd_lt hn ha)
  unfold redC; omega
theorem Zr_tot (hm : m ≤ 4096) (R : RmP m cap room) (hc : ∀ i, i < m → cap i ≤ 1048576) (cb : ∀ a, a < 2 * m → -1125899906842624 ≤ cost a ∧ cost a ≤ 1125899906842624) (pb : ∀ v, v < n → -281474976710656 ≤ pot v ∧ pot v ≤ 0) (hn : ∀ i, i < m → fr i < n ∧ to i < n) :
    -9671406556917033397649408 ≤ totC m (fun i => redC fr to cost pot (2 * i)) (onR room) ∧ totC m (fun i => redC fr to cost pot (2 * i)) (onR room) ≤ 9671406556917033397649408 := by
  have := totC_bd (m := m) (k := fun i => redC fr to cost pot (2 * i)) (f := onR room) (C := 2251799813685248) (X := 1048576) (by omega) (by omega) (fun i hi => redC_bd cb pb hn (by omega)) (R.onb hc)
  omega
theorem Zr_push (hp : ∀ a, a < 2 * m → cost (prA a) = - cost a) {a : Nat} {x : Int} (ha : a < 2 * m) (hr : redC fr to cost pot a < 0) (hx : 0 < x) : Zr n m fr to cost pot0 B (sndR room a x) pot < Zr n m fr to cost pot0 B room pot := by
  unfold Zr
  rw [tot_snd ha]
  have e : cA (fun i => redC fr to cost pot (2 * i)) a = redC fr to cost pot a := by
    unfold cA
    by_cases h : a % 2 = 0
    · rw [if_pos h]; dsimp only; rw [show 2 * (a / 2) = a by omega]
    · rw [if_neg h]
      dsimp only
      have : 2 * (a / 2) = prA a := by unfold prA; rw [if_neg h]; omega
      rw [this, redC_pr (hp a ha) ha]; omega
  rw [e]
  have := Int.mul_neg_of_neg_of_pos hr hx
  omega
theorem Zr_low (hm : m ≤ 4096) (R : RmP m cap room) (hc : ∀ i, i < m → cap i ≤ 1048576) (cb : ∀ a, a < 2 * m → -1125899906842624 ≤ cost a ∧ cost a ≤ 1125899906842624) (hn : ∀ i, i < m → fr i < n ∧ to i < n) {v : Nat} (hv : v < n) {p : Int} (hp : p < pot v)
    (pb : ∀ v, v < n → -281474976710656 ≤ pot v ∧ pot v ≤ 0) (pb' : ∀ u, u < n → -281474976710656 ≤ upd pot v p u ∧ upd pot v p u ≤ 0) : Zr n m fr to cost pot0 B room (upd pot v p) < Zr n m fr to cost pot0 B room pot := by
  have t1 := Zr_tot (room := room) hm R hc cb pb hn
  have t2 := Zr_tot (room := room) hm R hc cb pb' hn
  unfold Zr
  have e : (fun u => upd pot v p u - pot0 u + B) = upd (fun u => pot u - pot0 u + B) v (p - pot0 v + B) := by
    funext u; unfold upd; split
    · rename_i h; subst h; rfl
    · rfl
  rw [e, sumN_upd hv]
  generalize sumN n (fun u => pot u - pot0 u + B) = S at *
  omega
theorem Zr_nn (hm : m ≤ 4096) (R : RmP m cap room) (hc : ∀ i, i < m → cap i ≤ 1048576) (cb : ∀ a, a < 2 * m → -1125899906842624 ≤ cost a ∧ cost a ≤ 1125899906842624) (hn : ∀ i, i < m → fr i < n ∧ to i < n)
    (pb : ∀ v, v < n → -281474976710656 ≤ pot v ∧ pot v ≤ 0) (lo : ∀ v, v < n → pot0 v - B ≤ pot v) : 0 ≤ Zr n m fr to cost pot0 B room pot := by
  have t1 := Zr_tot (room := room) hm R hc cb pb hn
  have : 0 ≤ sumN n (fun v => pot v - pot0 v + B) := sumN_nonneg fun v hv => by have := lo v hv; omega
  unfold Zr
  generalize sumN n (fun u => pot u - pot0 u + B) = S at *
  omega
end
theorem RfP.pb (P : RfP n m fr to cost pot0 w (n * (w + e0)) room ex pot) (Z : Rf0 n m fr to cap b cost room0 pot0 w e0) : ∀ v, v < n → -281474976710656 ≤ pot v ∧ pot v ≤ 0 := fun v hv => by
  have := P.lo v hv
  have := Z.pb v hv
  generalize (n : Int) * (w + e0) = Q at *
  omega
theorem RfP.push {B : Int} (P : RfP n m fr to cost pot0 w B room ex pot) (hw : 1 ≤ w) (hp : ∀ a, a < 2 * m → cost (prA a) = - cost a) {a : Nat} {x : Int} (ha : a < 2 * m) (hr : redC fr to cost pot a < 0) (hx : 0 < x) (h1 : x ≤ room a) (h2 : x ≤ ex (tlA fr to a)) :
    RfP n m fr to cost pot0 w B (sndR room a x) (exS ex (tlA fr to a) (hdA fr to a) x) pot := by
  refine ⟨fun c hc hrc => ?_, P.lo, fun v hv hxv => P.ng v hv ?_⟩
  · by_cases e1 : c = a
    · subst e1; exact P.ge c hc (by omega)
    · by_cases e2 : c = prA a
      · subst e2; rw [redC_pr (hp a ha) ha]; omega
      · rw [sndR_o e1 e2] at hrc; exact P.ge c hc hrc
  · unfold exS at hxv
    by_cases e1 : tlA fr to a = v
    · rw [if_pos e1] at hxv; rw [e1] at h2; split at hxv <;> omega
    · rw [if_neg e1] at hxv; split at hxv <;> omega
theorem RfP.relabel (P : RfP n m fr to cost pot0 w (n * (w + e0)) room ex pot) (Z : Rf0 n m fr to cap b cost room0 pot0 w e0) (hn : ∀ i, i < m → fr i < n ∧ to i < n) (R : RmP m cap room) (bal : ∀ v, v < n → ex v + OutF m fr to (onR room) v = b v)
    {v : Nat} {best : Int} (hv : v < n) (hx : 0 < ex v) (h0 : 0 ≤ best) (hb : ∀ a, a < 2 * m → tlA fr to a = v → 0 < room a → best ≤ redC fr to cost pot a) :
    RfP n m fr to cost pot0 w (n * (w + e0)) room ex (upd pot v (pot v - (best + w))) := by
  have w1 := Z.w1
  have ge : ∀ a, a < 2 * m → 0 < room a → -w ≤ redC fr to cost (upd pot v (pot v - (best + w))) a := fun a ha hr => by
    have g := P.ge a ha hr
    have g2 := hb a ha
    unfold redC at *
    by_cases e1 : tlA fr to a = v
    · have := g2 e1 hr
      by_cases e2 : hdA fr to a = v
      · rw [e1, e2] at this; rw [e1, e2]; omega
      · rw [e1, upd_at, upd_ne e2]; rw [e1] at this; omega
    · by_cases e2 : hdA fr to a = v
      · rw [e2, upd_at, upd_ne e1]; rw [e2] at g; omega
      · rw [upd_ne e1, upd_ne e2]; exact g
  have ng : ∀ u, u < n → ex u < 0 → upd pot v (pot v - (best + w)) u = pot0 u := fun u hu hxu => by
    rw [upd_ne (by rintro rfl; omega)]; exact P.ng u hu hxu
  refine ⟨ge, fun u hu => ?_, ng⟩
  by_cases e : u = v
  · subst e
    have := (Z.low hn R bal ge ng hu hx).1
    have := (P.lo u hu).2
    rw [upd_at] at *
    exact ⟨by assumption, by omega⟩
  · rw [upd_ne e]; exact P.lo u hu
end

end Go.Proofs.YtjlojokockfapaaGreatDoor

namespace Go.Proofs.YtjlojokockfapaaGreatDoor
open Go
open Classical
set_option linter.unusedVariables false
set_option linter.unusedSimpArgs false

/-- The queue holds those with too much, but for one. -/
structure QuP (n : Nat) (ex : Nat → Int) (Q : List Nat) (c : Nat → Prop) : Prop where
  nd : Q.Nodup
  mem : ∀ v, v ∈ Q → v < n ∧ 0 < ex v ∧ ¬ c v
  all : ∀ v, v < n → 0 < ex v → v ∈ Q ∨ c v
section
variable {own own' : Own} {h h' : H} {bn bs n m : Nat} {fr to : Nat → Nat} {cap b k cost room room0 ex pot pot0 : Nat → Int} {M : List Nat} {w e0 : Int} {Q : List Nat}
theorem QuP.len {c : Nat → Prop} (q : QuP n ex Q c) : Q.length ≤ n := by
  have := cntP_list (n := n) q.nd fun x hx => (q.mem x hx).1
  have := cntP_all (n := n) (P := fun x => x ∈ Q)
  omega
theorem QuP.push {v u : Nat} {x : Int} (q : QuP n ex Q fun z => z = v) (hu : u < n) (hx : 0 < x) (hv : 0 < ex v) (hxv : x ≤ ex v) :
    QuP n (exS ex v u x) (if ex u ≤ 0 ∧ 0 < ex u + x then Q ++ [u] else Q) (fun z => z = v) ∧ 0 ≤ exS ex v u x v := by
  have inc : ∀ z, z ≠ v → ex z ≤ exS ex v u x z := fun z hz => by
    unfold exS; rw [if_neg (fun h => hz h.symm)]; split <;> omega
  constructor
  · by_cases c : ex u ≤ 0 ∧ 0 < ex u + x
    · rw [if_pos c]
      have uv : u ≠ v := by rintro rfl; omega
      have uQ : u ∉ Q := fun h => by have := (q.mem u h).2.1; omega
      refine ⟨?_, fun z hz => ?_, fun z hz hx => ?_⟩
      · rw [List.nodup_append]
        refine ⟨q.nd, by simp, fun a ha b hb => ?_⟩
        have : b = u := by simpa using hb
        subst this; rintro rfl; exact uQ ha
      · rcases List.mem_append.1 hz with k | k
        · obtain ⟨h1, h2, h3⟩ := q.mem z k
          exact ⟨h1, by have := inc z h3; omega, h3⟩
        · have : z = u := by simpa using k
          subst this
          refine ⟨hu, ?_, uv⟩
          unfold exS; rw [if_neg (fun h => uv h.symm), if_pos rfl]; omega
      · by_cases e : z = v
        · exact .inr e
        · by_cases e2 : z = u
          · subst e2; exact .inl (by simp)
          · have : exS ex v u x z = ex z := by unfold exS; rw [if_neg (fun h => e h.symm), if_neg (fun h => e2 h.symm)]; omega
            rw [this] at hx
            rcases q.all z hz hx with k | k
            · exact .inl (List.mem_append.2 (.inl k))
            · exact .inr k
    · rw [if_neg c]
      refine ⟨q.nd, fun z hz => ?_, fun z hz hx => ?_⟩
      · obtain ⟨h1, h2, h3⟩ := q.mem z hz
        exact ⟨h1, by have := inc z h3; omega, h3⟩
      · by_cases e : z = v
        · exact .inr e
        · by_cases e2 : z = u
          · subst e2
            refine q.all z hz ?_
            unfold exS at hx; rw [if_neg (fun h => e h.symm), if_pos rfl] at hx
            omega
          · have : exS ex v u x z = ex z := by unfold exS; rw [if_neg (fun h => e h.symm), if_neg (fun h => e2 h.symm)]; omega
            rw [this] at hx
            exact q.all z hz hx
  · unfold exS; rw [if_pos rfl]; split <;> omega
theorem zz_lt {Z2 Z3 L Win : Int} {P : Prop} (hl : Z3 < Z2) (hW : 2 * Z2 + L < Win ∨ (2 * Z2 + L = Win ∧ P)) (h0 : 0 ≤ Z3) (hL : 0 ≤ L) : (2 * Z3 + L).toNat < Win.toNat := by
  rcases hW with hW | ⟨hW, _⟩ <;> omega
theorem refine_T (S : MS own h bn n m fr to cap b cost room0 ex pot0) (E : EvP n m fr to cap b) (Z : Rf0 n m fr to cap b cost room0 pot0 w e0) (C1 : B1 own h 10 bs [.pointer (some (bk bn)), .int .i64 w]) :
    T Tryz.prog F.mincost_scaling_refine [.pointer (some (bk bs))] h fun r h' => r = .ret (.tuple ⟨[]⟩) ∧ ∃ own' room' ex' pot', Fm [3, 6, 7, 21] own h own' h' ∧ MS own' h' bn n m fr to cap b cost room' ex' pot' ∧ (∀ v, v < n → ex' v = 0) ∧
      (∀ a, a < 2 * m → 0 < room' a → -w ≤ redC fr to cost pot' a) ∧ ∀ v, v < n → pot0 v - n * (w + e0) ≤ pot' v ∧ pot' v ≤ pot0 v := by
  have hm1 := E.m1
  have hn1 := E.n1
  have w1 := Z.w1
  have hcap : ∀ i, i < m → cap i ≤ 1048576 := fun i hi => (E.cp i hi).2
  refine E_mincost_scaling_refine ?_
  unfold B_mincost_scaling_refine
  obtain ⟨vf, vt, vr, vc, vo, vx, vp, outs, k8, k1, k2, k3, k4, k5, k6, k7, ko⟩ := S.net.q
  refine ptrP_mk ⟨_, C1.ld0 rfl, ptrP_mk ⟨_, k8.ld rfl, k2.len (ints_length _ _) fun _ _ => ?_⟩⟩
  clear k1 k2 k3 k4 k5 k6 k7 k8 ko
  have pb0 : ∀ v, v < n → -281474976710656 ≤ pot0 v ∧ pot0 v ≤ 0 := fun v hv => by
    have := Z.pb v hv
    have : 0 ≤ (n : Int) * (w + e0) := Int.mul_nonneg (by omega) (by have := Z.e1; omega)
    omega
  let I : (Int × Unit) → H → Nat → Prop := fun p q z => ∃ (s : Nat) (room' ex' : Nat → Int), p.1 = s ∧ s ≤ 2 * m ∧ z = 2 * m - s ∧ Fm [3, 6, 7, 21] own h own q ∧ MS own q bn n m fr to cap b cost room' ex' pot0 ∧ B1 own q 10 bs [.pointer (some (bk bn)), .int .i64 w] ∧ ∀ a, a < s → 0 < room' a → 0 ≤ redC fr to cost pot0 a
  refine ⟨fun p q => ∃ k, I p q k, rk I, rk_wf I, ⟨_, 0, room0, ex, rfl, by omega, rfl, Fm.refl, S, C1, fun a ha => by omega⟩, ?_⟩
  clear S C1
  intro p q hI
  obtain ⟨s, room', ex', e1, hs, hz, F0, S, C1, hsat⟩ := mu_spec hI
  generalize hkk : mu I ((p, ()), q) = km at *
  change p = (s : Int) at e1
  subst e1
  have hlt : s < 2 * m → 2 * m - (s + 1) < mu I (((s : Int), ()), q) := fun h => by rw [hkk, hz]; exact sub_dec h
  clear hI
  refine ifP_of (fun h1 => ?_) (fun h1 => ?_)
  · have hsm : s < 2 * m := by have := of_decide_eq_true h1; omega
    rw [i64_inc (by omega)]
    have cb := Z.cb s hsm
    refine ptrP_mk ⟨_, C1.ld0 rfl, (reduced_T S.net E.e hsm (by omega) (fun v hv => by have := pb0 v hv; omega)).mono ?_⟩
    rintro _ _ ⟨rfl, rfl⟩
    refine rt_ret ⟨_, rfl, ifP_of (fun h2 => ?_) (fun h2 => ?_)⟩
    · have h2 := of_decide_eq_true h2
      obtain ⟨vf, vt, vr, vc, vo, vx, vp, outs, k8, k1, k2, k3, k4, k5, k6, k7, ko⟩ := S.net.q
      refine ptrP_mk (ptrP_mk ⟨_, C1.ld0 rfl, _, C1.ld0 rfl, ptrP_mk ⟨_, k8.ld rfl, k3.rdI hsm ?_⟩⟩)
      refine (S.send E hsm (S.rm.pos s hsm) (Int.le_refl _)).mono ?_
      rintro _ q2 ⟨rfl, F1, S⟩
      have C1 := C1.fm F1 (by simp <;> omega)
      refine rt_ret ⟨rfl, mu_next (I := I) (k := 2 * m - (s + 1)) ⟨s + 1, _, _, rfl, hsm, rfl, F0.trans (F1.mono (by simp)), S, C1, fun a ha hr => ?_⟩ (hlt hsm)⟩
      by_cases e1 : a = s
      · subst e1; rw [sndR_a] at hr; omega
      · by_cases e2 : a = prA s
        · subst e2; rw [redC_pr (Z.pr s hsm) hsm]; omega
        · rw [sndR_o e1 e2] at hr; exact hsat a (by omega) hr
    · have h2 := of_decide_eq_false h2
      refine mu_next (I := I) (k := 2 * m - (s + 1)) ⟨s + 1, _, _, rfl, hsm, rfl, F0, S, C1, fun a ha hr => ?_⟩ (hlt hsm)
      by_cases e1 : a = s
      · subst e1; omega
      · exact hsat a (by omega) hr
  have : s = 2 * m := by have := of_decide_eq_false h1; omega
  subst this
  have P0 : RfP n m fr to cost pot0 w (n * (w + e0)) room' ex' pot0 := ⟨fun a ha hr => by have := hsat a ha hr; omega, fun v hv => by
    have : 0 ≤ (n : Int) * (w + e0) := Int.mul_nonneg (by omega) (by have := Z.e1; omega)
    omega, fun v _ _ => rfl⟩
  clear hlt hkk hz h1 hsat hs
  obtain ⟨vf, vt, vr, vc, vo, vx, vp, outs, k8, k1, k2, k3, k4, k5, k6, k7, ko⟩ := S.net.q
  refine ptrP_mk ⟨_, C1.ld0 rfl, ptrP_mk ⟨_, k8.ld rfl, k6.len (ints_length _ _) fun _ _ => ?_⟩⟩
  let I3 : (Value × Int × Unit) → H → Nat → Prop := fun p q' z => ∃ (j : Nat) (ow' : Own) (Q : List Nat), p.2.1 = j ∧ j ≤ n ∧ z = n - j ∧ Fm [21] own q ow' q' ∧ Sq ow' q' 21 p.1 (natV Q) ∧ Q.Nodup ∧ (∀ v, v ∈ Q ↔ v < j ∧ 0 < ex' v)
  refine ⟨fun p q => ∃ k, I3 p q k, rk I3, rk_wf I3, ⟨_, 0, own, [], rfl, by omega, rfl, Fm.refl, Sq.nil, List.nodup_nil, fun v => by simp⟩, ?_⟩
  intro qu p q3 hI
  obtain ⟨j, ow', Q, e1, hj, hz3, F1, kQ, hnd, hQ⟩ := mu_spec hI
  generalize hkk3 : mu I3 ((qu, p, ()), q3) = km3 at *
  change p = (j : Int) at e1
  change Sq ow' q3 21 qu (natV Q) at kQ
  subst e1
  have hlt : j < n → n - (j + 1) < mu I3 ((qu, (j : Int), ()), q3) := fun h => by rw [hkk3, hz3]; exact sub_dec h
  clear hI
  refine ifP_of (fun h1 => ?_) (fun h1 => ?_)
  · have hjn : j < n := by have := of_decide_eq_true h1; omega
    rw [i64_inc (by omega)]
    refine (k6.fm F1 (by simp)).rdI hjn (ifP_of (fun h2 => ?_) (fun h2 => ?_))
    · have h2 := of_decide_eq_true h2
      have hl : Q.length ≤ n := by
        have := cntP_list (n := n) hnd fun x hx => by have := ((hQ x).1 hx).1; omega
        have := cntP_all (n := n) (P := fun x => x ∈ Q)
        omega
      refine kQ.push (by simp [Value.oneCell']) (by omega) (by rw [natV_length]; omega) ?_
      intro bx hm2 p' ow2 q' hbx xm F2 kQ
      refine mu_next (I := I3) (k := n - (j + 1)) ⟨j + 1, ow2, Q ++ [j], rfl, hjn, rfl, F1.trans F2, by simpa [natV] using kQ, ?_, fun v => ?_⟩ (hlt hjn)
      · rw [List.nodup_append]
        refine ⟨hnd, by simp, fun a ha b hb => ?_⟩
        have : b = j := by simpa using hb
        subst this; rintro rfl
        have := ((hQ a).1 ha).1; omega
      · rw [List.mem_append, hQ v, List.mem_singleton]
        constructor
        · rintro (⟨a, b⟩ | rfl)
          · exact ⟨by omega, b⟩
          · exact ⟨by omega, h2⟩
        · rintro ⟨a, b⟩
          by_cases e : v = j
          · exact .inr e
          · exact .inl ⟨by omega, b⟩
    · have h2 := of_decide_eq_false h2
      refine mu_next (I := I3) (k := n - (j + 1)) ⟨j + 1, ow', Q, rfl, hjn, rfl, F1, kQ, hnd, fun v => ?_⟩ (hlt hjn)
      rw [hQ v]
      by_cases e : v = j
      · subst e; constructor <;> (rintro ⟨a, b⟩; exact absurd b h2)
      · constructor <;> (rintro ⟨a, b⟩; exact ⟨by omega, b⟩)
  have : j = n := by have := of_decide_eq_false h1; omega
  subst this
  have q0 : QuP j ex' Q fun _ => False := ⟨hnd, fun v hv => ⟨((hQ v).1 hv).1, ((hQ v).1 hv).2, fun h => h⟩, fun v hv hx => .inl ((hQ v).2 ⟨hv, hx⟩)⟩
  have S := S.fm F1 (by simp)
  have C1 := C1.fm F1 (by simp <;> omega)
  have F0 := F0.trans (F1.mono (by simp))
  clear hlt hkk3 hz3 h1 hj hnd hQ k1 k2 k3 k4 k5 k6 k7 k8 ko F1
  let I4 : (Value × Unit) → H → Nat → Prop := fun p q z => ∃ (ow : Own) (Q : List Nat) (room' ex' pot' : Nat → Int), z = (2 * Zr j m fr to cost pot0 (j * (w + e0)) room' pot' + Q.length).toNat ∧ Fm [3, 6, 7, 21] own h ow q ∧ MS ow q bn j m fr to cap b cost room' ex' pot' ∧ B1 ow q 10 bs [.pointer (some (bk bn)), .int .i64 w] ∧
    Sq ow q 21 p.1 (natV Q) ∧ RfP j m fr to cost pot0 w (j * (w + e0)) room' ex' pot' ∧ QuP j ex' Q fun _ => False
  refine ⟨fun p q => ∃ k, I4 p q k, rk I4, rk_wf I4, ⟨_, ow', Q, room', ex', pot0, rfl, F0, S, C1, kQ, P0, q0⟩, ?_⟩
  clear F0 S C1 kQ P0 q0
  intro qu q4 hI
  obtain ⟨ow, Q, room', ex', pot', hz, F0, S, C1, kQ, P, qp⟩ := mu_spec hI
  generalize hkk : mu I4 ((qu, ()), q4) = km at *
  change Sq ow q4 21 qu (natV Q) at kQ
  clear hI
  refine kQ.len (natV_length _) fun _ _ => ifP_of (fun h1 => ?_) (fun h1 => ?_)
  rotate_left
  · have hQ0 : Q = [] := by
      have := of_decide_eq_false h1
      exact List.length_eq_zero_iff.1 (by omega)
    subst hQ0
    refine ⟨rfl, ow, room', ex', pot', F0, S, S.done E ?_, P.ge, P.lo⟩
    rintro ⟨v, hv, hx⟩
    rcases qp.all v hv hx with k | k
    · cases k
    · exact k
  obtain ⟨v, Q, rfl⟩ : ∃ v Q', Q = v :: Q' := by
    cases Q with
    | nil => simp at h1
    | cons v Q' => exact ⟨v, Q', rfl⟩
  clear h1
  obtain ⟨hv, hxv, _⟩ := qp.mem v (by simp)
  have qp2 : QuP j ex' Q fun z => z = v := ⟨(List.nodup_cons.1 qp.nd).2, fun u hu => ⟨(qp.mem u (by simp [hu])).1, (qp.mem u (by simp [hu])).2.1, fun e => (List.nodup_cons.1 qp.nd).1 (e ▸ hu)⟩, fun u hu hx => by
    rcases qp.all u hu hx with k | k
    · rcases List.mem_cons.1 k with k | k
      · exact .inr k
      · exact .inl k
    · exact k.elim⟩
  have eQ : natV (v :: Q) = .int .i64 (v : Nat) :: natV Q := rfl
  rw [eQ] at kQ
  refine kQ.rd (j := 0) (x := (v : Nat)) rfl (Sq.tl kQ ?_)
  intro ax lx cx hl1 hl2 hl3 kQ
  refine ⟨by omega, hl3, by omega, hl2, ?_⟩
  have hzl : (2 * Zr j m fr to cost pot0 (j * (w + e0)) room' pot' + (v :: Q).length) = 2 * Zr j m fr to cost pot0 (j * (w + e0)) room' pot' + Q.length + 1 := by
    rw [List.length_cons]; omega
  rw [hzl] at hz
  have zn : ∀ {room' ex' pot' : Nat → Int} {ow q}, MS ow q bn j m fr to cap b cost room' ex' pot' → RfP j m fr to cost pot0 w (j * (w + e0)) room' ex' pot' → 0 ≤ Zr j m fr to cost pot0 (j * (w + e0)) room' pot' :=
    fun S P => Zr_nn hm1 S.rm hcap Z.cb E.e (P.pb Z) fun v hv => (P.lo v hv).1
  let I5 : (Value × Unit) → H → Nat → Prop := fun p q z => ∃ (ow : Own) (Q : List Nat) (room' ex' pot' : Nat → Int), z = (2 * Zr j m fr to cost pot0 (j * (w + e0)) room' pot' + Q.length).toNat ∧ z < km ∧ Fm [3, 6, 7, 21] own h ow q ∧ MS ow q bn j m fr to cap b cost room' ex' pot' ∧ B1 ow q 10 bs [.pointer (some (bk bn)), .int .i64 w] ∧
    Sq ow q 21 p.1 (natV Q) ∧ RfP j m fr to cost pot0 w (j * (w + e0)) room' ex' pot' ∧ QuP j ex' Q (fun z => z = v) ∧ 0 ≤ ex' v
  refine ⟨fun p q => ∃ k, I5 p q k, rk I5, rk_wf I5, ⟨_, ow, Q, room', ex', pot', rfl, by have := zn S P; omega, F0, S, C1, kQ, P, qp2, by omega⟩, ?_⟩
  clear F0 S C1 kQ P qp2 qp eQ hl1 hl2 hl3 hzl hxv hz
  intro qu2 q5 hI
  obtain ⟨ow, Q, room', ex', pot', hz, hzk, F0, S, C1, kQ, P, qp, xv0⟩ := mu_spec hI
  generalize hkk2 : mu I5 ((qu2, ()), q5) = km2 at *
  change Sq ow q5 21 qu2 (natV Q) at kQ
  clear hI
  obtain ⟨vf, vt, vr, vc, vo, vx, vp, outs, k8, k1, k2, k3, k4, k5, k6, k7, ko⟩ := S.net.q
  refine ptrP_mk ⟨_, C1.ld0 rfl, ptrP_mk ⟨_, k8.ld rfl, k6.rdI hv (ifP_of (fun h1 => ?_) (fun h1 => ?_))⟩⟩
  rotate_left
  · have h1 := of_decide_eq_false h1
    refine mu_next (I := I4) (k := (2 * Zr j m fr to cost pot0 (j * (w + e0)) room' pot' + Q.length).toNat) ⟨ow, Q, room', ex', pot', rfl, F0, S, C1, kQ, P, qp.nd, fun u hu => ⟨(qp.mem u hu).1, (qp.mem u hu).2.1, fun e => e⟩, fun u hu hx => ?_⟩ (by rw [hkk, ← hz]; exact hzk)
    rcases qp.all u hu hx with k | k
    · exact .inl k
    · subst k; exact absurd hx h1
  have h1 := of_decide_eq_true h1
  refine ptrP_mk ⟨_, C1.ld0 rfl, ptrP_mk ⟨_, k8.ld rfl, k5.rdV hv ((ko v hv).len (natV_length _) fun _ _ => ?_)⟩⟩
  have hal := arcsL_length (fr := fr) (to := to) (v := v) (i := m)
  obtain ⟨Win, hWin⟩ : ∃ Win : Int, Win = 2 * Zr j m fr to cost pot0 (j * (w + e0)) room' pot' + Q.length := ⟨_, rfl⟩
  rw [← hWin] at hz
  have hP0 := P.pb Z
  let I6 : (Value × Int × Int × Unit) → H → Nat → Prop := fun p q z => ∃ (s : Nat) (ow : Own) (Q : List Nat) (room' ex' : Nat → Int), p.2.2.1 = s ∧ s ≤ (arcsL fr to m v).length ∧ z = (arcsL fr to m v).length - s ∧ Fm [3, 6, 7, 21] own h ow q ∧ MS ow q bn j m fr to cap b cost room' ex' pot' ∧ B1 ow q 10 bs [.pointer (some (bk bn)), .int .i64 w] ∧
    B1 ow q 8 bn [vf, vt, vr, vc, vo, vx, vp] ∧ S1 ow q (40 + v) (outs v) (natV (arcsL fr to m v)) ∧ S1 ow q 2 vt (ints (2 * m) fun a => (hdA fr to a : Nat)) ∧
    Sq ow q 21 p.1 (natV Q) ∧ RfP j m fr to cost pot0 w (j * (w + e0)) room' ex' pot' ∧ QuP j ex' Q (fun z => z = v) ∧ 0 ≤ ex' v ∧
    (2 * Zr j m fr to cost pot0 (j * (w + e0)) room' pot' + Q.length < Win ∨ (2 * Zr j m fr to cost pot0 (j * (w + e0)) room' pot' + Q.length = Win ∧ 0 ≤ p.2.1 ∧ 0 < ex' v)) ∧
    (0 ≤ p.2.1 → ∀ a ∈ (arcsL fr to m v).take s, 0 < room' a → p.2.1 ≤ redC fr to cost pot' a) ∧ -4611686018427387904 ≤ p.2.1 ∧ p.2.1 ≤ 4611686018427387904
  refine ⟨fun p q => ∃ k, I6 p q k, rk I6, rk_wf I6, ⟨_, 0, ow, Q, room', ex', rfl, by omega, rfl, F0, S, C1, k8, ko v hv, k2, kQ, P, qp, xv0, .inr ⟨hWin.symm, by show (0 : Int) ≤ 4611686018427387904; omega, h1⟩, fun _ a ha => by simp at ha, by show (-4611686018427387904 : Int) ≤ 4611686018427387904; omega, by show (4611686018427387904 : Int) ≤ 4611686018427387904; omega⟩, ?_⟩
  clear F0 S C1 kQ P qp xv0 k1 k2 k3 k4 k5 k6 k7 k8 ko h1 hWin
  intro qu3 best p q6 hI
  obtain ⟨s, ow, Q, room', ex', e1, hs, hz6, F0, S, C1, k8, kov, k2, kQ, P, qp, xv0, hW, hbst, hb1, hb2⟩ := mu_spec hI
  generalize hkk6 : mu I6 ((qu3, best, p, ()), q6) = km6 at *
  change p = (s : Int) at e1
  change Sq ow q6 21 qu3 (natV Q) at kQ
  change _ ∨ (_ = Win ∧ 0 ≤ best ∧ 0 < ex' v) at hW
  change 0 ≤ best → ∀ a ∈ (arcsL fr to m v).take s, 0 < room' a → best ≤ redC fr to cost pot' a at hbst
  change -4611686018427387904 ≤ best at hb1
  change best ≤ 4611686018427387904 at hb2
  subst e1
  have hlt6 : s < (arcsL fr to m v).length → (arcsL fr to m v).length - (s + 1) < mu I6 ((qu3, best, (s : Int), ()), q6) := fun h => by rw [hkk6, hz6]; exact sub_dec h
  clear hI
  have hql := qp.len
  refine ifP_of (fun h2 => ?_) (fun h2 => ?_)
  · have hsl : s < (arcsL fr to m v).length := by have := of_decide_eq_true h2; omega
    obtain ⟨a, ha⟩ : ∃ a, a = (arcsL fr to m v)[s] := ⟨_, rfl⟩
    have ham := mem_arcsL.1 (show a ∈ arcsL fr to m v by rw [ha]; exact List.getElem_mem hsl)
    have htk : (arcsL fr to m v).take (s + 1) = (arcsL fr to m v).take s ++ [a] := by rw [ha, List.take_succ_eq_append_getElem hsl]
    have hd := hd_lt E.e ham.1
    have rbd := redC_bd Z.cb hP0 E.e ham.1
    have cb := Z.cb a ham.1
    have hra := S.rb E ham.1
    refine kov.rd (natV_get hsl) ?_
    rw [← ha, i64_inc (by omega)]
    refine ptrP_mk (ptrP_mk ⟨_, C1.ld0 rfl, _, C1.ld0 rfl, ptrP_mk ⟨_, k8.ld rfl, k2.at (ints_get ham.1) fun a94 ha94 => ⟨_, ha94, (reduced_T S.net E.e ham.1 (by omega) (fun u hu => by have := hP0 u hu; omega)).mono ?_⟩⟩⟩)
    rintro _ _ ⟨rfl, rfl⟩
    refine rt_ret ⟨_, rfl, sameAt_of rfl, sameAt_of rfl, sameAt_of rfl, fun p q => q = q6 ∧ p.1 = (if 0 < room' a then (if redC fr to cost pot' a < best then redC fr to cost pot' a else best) else best), ?_, ?_⟩
    · obtain ⟨vf, vt, vr, vc, vo, vx, vp, outs, k8, k1, k2, k3, k4, k5, k6, k7, ko⟩ := S.net.q
      refine ptrP_mk ⟨_, C1.ld0 rfl, ptrP_mk ⟨_, k8.ld rfl, k3.rdI ham.1 (ifP_of (fun h3 => ?_) (fun h3 => ?_))⟩⟩
      · exact ⟨rfl, (if_pos (of_decide_eq_true h3)).symm⟩
      · exact ⟨rfl, (if_neg (of_decide_eq_false h3)).symm⟩
    intro best2 q6 hq
    obtain ⟨hq, hbe⟩ := hq
    subst hq
    change best2 = _ at hbe
    have b2a : -4611686018427387904 ≤ best2 ∧ best2 ≤ 4611686018427387904 := by rw [hbe]; split <;> (try split) <;> omega
    have b2le : best2 ≤ best := by rw [hbe]; split <;> (try split) <;> omega
    have b2r : 0 < room' a → best2 ≤ redC fr to cost pot' a := fun h => by rw [hbe, if_pos h]; split <;> omega
    have hb2' : 0 ≤ best2 → ∀ c ∈ (arcsL fr to m v).take (s + 1), 0 < room' c → best2 ≤ redC fr to cost pot' c := fun h0 c hc hr => by
      rw [htk] at hc
      rcases List.mem_append.1 hc with k | k
      · have := hbst (by omega) c k hr; omega
      · have : c = a := by simpa using k
        subst this; exact b2r hr
    have skip : (room' a = 0 ∨ 0 ≤ redC fr to cost pot' a ∨ ex' v = 0) → (∃ k, I6 (qu3, best2, ((s + 1 : Nat) : Int), ()) q6 k) ∧ Go.Proofs.YtjlojokockfapaaGreatDoor.rk I6 ((qu3, best2, ((s + 1 : Nat) : Int), ()), q6) ((qu3, best, (s : Int), ()), q6) := fun hx => by
      refine mu_next (I := I6) (k := (arcsL fr to m v).length - (s + 1)) ⟨s + 1, ow, Q, room', ex', rfl, hsl, rfl, F0, S, C1, k8, kov, k2, kQ, P, qp, xv0, ?_, hb2', b2a.1, b2a.2⟩ (hlt6 hsl)
      rcases hW with hW | ⟨g1, g2, g3⟩
      · exact .inl hW
      · refine .inr ⟨g1, ?_, g3⟩
        show 0 ≤ best2
        rcases hx with hx | hx | hx
        · rw [hbe, if_neg (by omega)]; exact g2
        · rw [hbe]; split <;> (try split) <;> omega
        · omega
    refine ⟨fun _ q => q = q6 ∧ 0 < room' a ∧ redC fr to cost pot' a < 0 ∧ 0 < ex' v, ?_, ?_⟩
    · obtain ⟨vf, vt, vr, vc, vo, vx, vp, outs, k8, k1, k2, k3, k4, k5, k6, k7, ko⟩ := S.net.q
      refine ptrP_mk ⟨_, C1.ld0 rfl, ptrP_mk ⟨_, k8.ld rfl, k3.rdI ham.1 (ifP_of (fun h3 => skip (.inl (of_decide_eq_true h3))) (fun h3 => ifP_of (fun h4 => skip (.inr (.inl (of_decide_eq_true h4)))) (fun h4 => ?_)))⟩⟩
      refine ptrP_mk ⟨_, C1.ld0 rfl, ptrP_mk ⟨_, k8.ld rfl, k6.rdI hv (ifP_of (fun h5 => skip (.inr (.inr (of_decide_eq_true h5)))) (fun h5 => ?_))⟩⟩
      have h3 := of_decide_eq_false h3
      have h4 := of_decide_eq_false h4
      have h5 := of_decide_eq_false h5
      exact ⟨rfl, by omega, by omega, by omega⟩
    clear skip
    intro q6 hq
    obtain ⟨hq, hrp, hrn, hxp⟩ := hq
    subst hq
    obtain ⟨x, hx⟩ : ∃ x, x = (if room' a < ex' v then room' a else ex' v) := ⟨_, rfl⟩
    have x0 : 0 < x ∧ x ≤ room' a ∧ x ≤ ex' v := by rw [hx]; split <;> omega
    have hxu := S.exb E hd
    refine ⟨fun p q => ∃ (ow' : Own), Fm [21] ow q6 ow' q ∧ Sq ow' q 21 p.1 (natV (if ex' (hdA fr to a) ≤ 0 ∧ 0 < ex' (hdA fr to a) + x then Q ++ [hdA fr to a] else Q)), ?_, ?_⟩
    · obtain ⟨vf, vt, vr, vc, vo, vx, vp, outs, k8, k1, k2, k3, k4, k5, k6, k7, ko⟩ := S.net.q
      refine ptrP_mk ⟨_, C1.ld0 rfl, ptrP_mk ⟨_, k8.ld rfl, k6.rdI hd (ifP_of (fun h3 => ?_) (fun h3 => ?_))⟩⟩
      · have h3 := of_decide_eq_true h3
        refine ptrP_mk (ptrP_mk (ptrP_mk ⟨_, C1.ld0 rfl, ptrP_mk ⟨_, k8.ld rfl, k6.rdI hd ⟨_, C1.ld0 rfl, ptrP_mk ⟨_, k8.ld rfl, k6.rdI hv ⟨_, C1.ld0 rfl, ptrP_mk ⟨_, k8.ld rfl, k3.rdI ham.1 ?_⟩⟩⟩⟩⟩⟩))
        rw [← hx]
        have ew : IntKind.i64.wrap (ex' (hdA fr to a) + x) = ex' (hdA fr to a) + x := w64_in (by omega) (by omega)
        rw [ew]
        refine ifP_of (fun h4 => ?_) (fun h4 => ?_)
        · have h4 := of_decide_eq_true h4
          refine kQ.push (by simp [Value.oneCell']) (by omega) (by rw [natV_length]; omega) ?_
          intro bx hm2 p' ow2 q' hbx xm F2 kQ
          refine ⟨ow2, F2, ?_⟩
          rw [if_pos ⟨h3, h4⟩]
          simpa [natV] using kQ
        · have h4 := of_decide_eq_false h4
          exact ⟨ow, Fm.refl, by rw [if_neg (fun h => h4 h.2)]; exact kQ⟩
      · have h3 := of_decide_eq_false h3
        exact ⟨ow, Fm.refl, by rw [if_neg (fun h => h3 h.1)]; exact kQ⟩
    intro qu4 q7 hq
    obtain ⟨ow2, F2, kQ⟩ := hq
    change Sq ow2 q7 21 qu4 _ at kQ
    have S := S.fm F2 (by simp)
    have C1 := C1.fm F2 (by simp <;> omega)
    have k8 := k8.fm F2 (by simp <;> omega)
    have k2 := k2.fm F2 (by simp <;> omega)
    have kov := kov.fm F2 (by simp; omega)
    have F0 := F0.trans (F2.mono (by simp))
    obtain ⟨vf', vt', vr', vc', vo', vx', vp', outs', k8', k1', k2', k3', k4', k5', k6', k7', ko'⟩ := S.net.q
    refine ptrP_mk (ptrP_mk (ptrP_mk ⟨_, C1.ld0 rfl, _, C1.ld0 rfl, ptrP_mk ⟨_, k8'.ld rfl, k6'.rdI hv ⟨_, C1.ld0 rfl, ptrP_mk ⟨_, k8'.ld rfl, k3'.rdI ham.1 ?_⟩⟩⟩⟩))
    rw [← hx]
    refine (S.send E ham.1 (by omega) x0.2.1).mono ?_
    rintro _ q8 ⟨rfl, F3, S3⟩
    have C1 := C1.fm F3 (by simp <;> omega)
    have k8 := k8.fm F3 (by simp <;> omega)
    have k2 := k2.fm F3 (by simp <;> omega)
    have kQ := kQ.fm F3 (by simp <;> omega)
    have kov := kov.fm F3 (by simp; omega)
    rw [ham.2] at S3
    have qp3 := qp.push hd x0.1 hxp x0.2.2
    have P3 := P.push w1 Z.pr ham.1 hrn x0.1 x0.2.1 (by rw [ham.2]; exact x0.2.2)
    rw [ham.2] at P3
    have zp := Zr_push (n := j) (pot0 := pot0) (B := j * (w + e0)) (room := room') Z.pr ham.1 hrn x0.1
    have bneg : best2 < 0 := by have := b2r hrp; omega
    refine rt_ret ⟨rfl, mu_next (I := I6) (k := (arcsL fr to m v).length - (s + 1)) ⟨s + 1, ow2, _, _, _, rfl, hsl, rfl, F0.trans (F3.mono (by simp)), S3, C1, k8, kov, k2, kQ, P3, qp3.1, qp3.2, .inl ?_, fun h => by have : 0 ≤ best2 := h; omega, b2a.1, b2a.2⟩ (hlt6 hsl)⟩
    have hll : ((if ex' (hdA fr to a) ≤ 0 ∧ 0 < ex' (hdA fr to a) + x then Q ++ [hdA fr to a] else Q).length : Int) ≤ Q.length + 1 := by
      split
      · simp
      · omega
    generalize (if ex' (hdA fr to a) ≤ 0 ∧ 0 < ex' (hdA fr to a) + x then Q ++ [hdA fr to a] else Q) = Q2 at *
    generalize Zr j m fr to cost pot0 (j * (w + e0)) (sndR room' a x) pot' = Z2 at *
    rcases hW with hW | hW <;> omega
  have hsE : s = (arcsL fr to m v).length := by have := of_decide_eq_false h2; omega
  subst hsE
  rw [List.take_length] at hbst
  clear hlt6 hkk6 hz6 h2 hs
  obtain ⟨vf', vt', vr', vc', vo', vx', vp', outs', k8', k1', k2', k3', k4', k5', k6', k7', ko'⟩ := S.net.q
  have zn1 := zn S P
  have keep : 2 * Zr j m fr to cost pot0 (j * (w + e0)) room' pot' + Q.length < Win → (∃ k, I5 (qu3, ()) q6 k) ∧ Go.Proofs.YtjlojokockfapaaGreatDoor.rk I5 ((qu3, ()), q6) ((qu2, ()), q5) := fun hlt => by
    refine mu_next (I := I5) ⟨ow, Q, room', ex', pot', rfl, ?_, F0, S, C1, kQ, P, qp, xv0⟩ ?_
    · generalize Zr j m fr to cost pot0 (j * (w + e0)) room' pot' = Z2 at *
      omega
    · rw [hkk2]
      generalize Zr j m fr to cost pot0 (j * (w + e0)) room' pot' = Z2 at *
      omega
  refine ptrP_mk ⟨_, C1.ld0 rfl, ptrP_mk ⟨_, k8'.ld rfl, k6'.rdI hv (ifP_of (fun h3 => ifP_of (fun h4 => ?_) (fun h4 => ?_)) (fun h3 => ?_))⟩⟩
  · have h3 := of_decide_eq_true h3
    have h4 := of_decide_eq_true h4
    obtain ⟨_, a, a1, a2, a3⟩ := Z.low E.e S.rm S.bal P.ge P.ng hv h3
    have hba := hbst h4 a (mem_arcsL.2 ⟨a1, a2⟩) a3
    have rbd := redC_bd Z.cb hP0 E.e a1
    have hpv := hP0 v hv
    have hw48 : w ≤ 281474976710656 := by
      have := Z.pb v hv
      have e1 := Z.e1
      have h5 : 1 * (w + e0) ≤ (j : Int) * (w + e0) := Int.mul_le_mul_of_nonneg_right (by omega) (by omega)
      generalize (j : Int) * (w + e0) = G at *
      omega
    have P2 := P.relabel Z E.e S.rm S.bal hv h3 h4 fun c hc ht hr => hbst h4 c (mem_arcsL.2 ⟨hc, ht⟩) hr
    have zl := Zr_low (pot0 := pot0) (B := j * (w + e0)) hm1 S.rm hcap Z.cb E.e hv (show pot' v - (best + w) < pot' v by omega) hP0 (P2.pb Z)
    have e1 : IntKind.i64.wrap (best + w) = best + w := w64_in (by omega) (by omega)
    have e2 : IntKind.i64.wrap (pot' v - (best + w)) = pot' v - (best + w) := w64_in (by omega) (by omega)
    refine ptrP_mk (ptrP_mk ⟨_, C1.ld0 rfl, ptrP_mk ⟨_, k8'.ld rfl, k7'.rdI hv ⟨_, C1.ld rfl, ?_⟩⟩⟩)
    show ixS vp' (v : Int) 1 fun a187 => stC q6 a187 (Value.int IntKind.i64 (IntKind.i64.wrap (pot' v - IntKind.i64.wrap (best + w)))) fun h188 => (∃ k, I5 (qu3, ()) h188 k) ∧ Go.Proofs.YtjlojokockfapaaGreatDoor.rk I5 ((qu3, ()), h188) ((qu2, ()), q5)
    rw [e1, e2]
    refine k7'.setI hv fun g F5 k7' => ?_
    have k1' := k1'.fm F5 (by simp <;> omega)
    have k2' := k2'.fm F5 (by simp <;> omega)
    have k3' := k3'.fm F5 (by simp <;> omega)
    have k4' := k4'.fm F5 (by simp <;> omega)
    have k5' := k5'.fm F5 (by simp <;> omega)
    have k6' := k6'.fm F5 (by simp <;> omega)
    have k8' := k8'.fm F5 (by simp <;> omega)
    have C1 := C1.fm F5 (by simp <;> omega)
    have kQ := kQ.fm F5 (by simp <;> omega)
    have ko' := fun v hv => (ko' v hv).fm F5 (by simp; omega)
    have S2 : MS ow g bn j m fr to cap b cost room' ex' (upd pot' v (pot' v - (best + w))) := ⟨⟨vf', vt', vr', vc', vo', vx', vp', outs', k8', k1', k2', k3', k4', k5', k6', k7', ko'⟩, S.rm, S.bal⟩
    have zn2 := zn S2 P2
    have key := zz_lt zl hW zn2 (Int.natCast_nonneg Q.length)
    exact mu_next (I := I5) ⟨ow, Q, room', ex', _, rfl, Nat.lt_trans key (by rw [← hz]; exact hzk), F0.trans (F5.mono (by simp)), S2, C1, kQ, P2, qp, xv0⟩ (by rw [hkk2, hz]; exact key)
  · have h4 := of_decide_eq_false h4
    exact keep (by rcases hW with hW | hW; exact hW; omega)
  · have h3 := of_decide_eq_false h3
    exact keep (by rcases hW with hW | hW; exact hW; omega)
end

end Go.Proofs.YtjlojokockfapaaGreatDoor

namespace Go.Proofs.YtjlojokockfapaaGreatDoor
open Go
open Classical
set_option linter.unusedVariables false
set_option linter.unusedSimpArgs false

section
variable {own own' : Own} {h h' : H} {i j b n : Nat} {v : Value} {vs : List Value} {M : List Nat}
/-- A block of another owner. -/
theorem Fm.re (F : Fm M own h own' h') (hb : own b ∉ M) : Fm M (own1 own b j) h (own1 own' b j) h' := by
  refine ⟨fun c o e n => ?_, fun c o e => ?_⟩
  · by_cases hc : c = b
    · subst hc; exact F.keep c o e hb
    · rw [own1_ne hc] at n; exact F.keep c o e n
  · by_cases hc : c = b
    · subst hc; rw [own1_at, own1_at]; exact ⟨(F.stay c o e).1, rfl⟩
    · rw [own1_ne hc, own1_ne hc]; exact F.stay c o e
theorem S1.re (s : S1 own h i v vs) (hb : own b ≠ i) : S1 (own1 own b j) h i v vs := by
  rcases s with s | ⟨c, hc, s⟩
  · exact .inl s
  · exact .inr ⟨c, by rw [own1_ne (by rintro rfl; exact hb hc)]; exact hc, s⟩
theorem B1.re {c : Nat} (s : B1 own h i c vs) (hb : own b ≠ i) : B1 (own1 own b j) h i c vs := ⟨by
  obtain ⟨e, _⟩ := s
  rw [own1_ne (by rintro rfl; exact hb e)]; exact e, s.bl⟩
theorem Sl.setJ {f : Nat → Int} {j : Nat} {x : Int} {K : H → Prop} (s : Sl h b (slV b n) (ints n f)) (hj : j < n) (k : ∀ g, Kp b h g → Sl g b (slV b n) (ints n (upd f j x)) → K g) :
    ixS (slV b n) (j : Int) 1 fun a => stC h a (.int .i64 x) K :=
  (S1.of (i := 1) s fun _ => 0).setI hj fun g F s' => k g (fun c o hc e => F.keep c o e (by rw [own1_ne hc]; simp)) s'.sl.1
theorem S1.one_ {K : Prop} (s : S1 own h i v vs) (k : K) : oneP v K := by
  obtain ⟨a, c, rfl⟩ := s.shape
  exact k
theorem Sl.ex_ {w : Value} (s : Sl h b w vs) : ∃ o, h b = some o := by
  obtain ⟨c, e, zs, _, h2, _⟩ := s
  exact ⟨_, h2⟩
end
section
variable {own own' : Own} {h h' : H} {bn bs n m : Nat} {fr to : Nat → Nat} {cap b k cost room room0 ex pot pot0 : Nat → Int} {M : List Nat} {w e0 : Int}
/-- Nearly right for costs times n + 1: no circle costs less than nothing. -/
theorem NegC.no (ge : ∀ a, a < 2 * m → 0 < room a → -1 ≤ redC fr to (fun a => cost a * ((n + 1 : Nat) : Int)) pot a) : ¬ NegC n m fr to room cost := by
  rintro ⟨y, arc, p, p1, p2, p3, p4, p5⟩
  have key : ∀ q, q ≤ p → -(q : Int) + pot (y 0) - pot (y q) ≤ sumN q (fun s => cost (arc s)) * ((n + 1 : Nat) : Int) := by
    intro q
    induction q with
    | zero => intro _; show _ ≤ (0 : Int) * _; omega
    | succ q ih =>
      intro hq
      have a := ih (by omega)
      obtain ⟨g1, g2, g3, g4⟩ := p4 q (by omega)
      have c := ge _ g1 g4
      unfold redC at c
      rw [g2, g3] at c
      show _ ≤ (sumN q (fun s => cost (arc s)) + cost (arc q)) * ((n + 1 : Nat) : Int)
      rw [Int.add_mul]
      generalize sumN q (fun s => cost (arc s)) * ((n + 1 : Nat) : Int) = A at *
      dsimp only at c
      generalize cost (arc q) * ((n + 1 : Nat) : Int) = B at *
      omega
  have := key p (Nat.le_refl _)
  rw [p3] at this
  have h2 : sumN p (fun s => cost (arc s)) * ((n + 1 : Nat) : Int) ≤ -1 * ((n + 1 : Nat) : Int) := Int.mul_le_mul_of_nonneg_right (by omega) (by omega)
  omega
theorem mul_bd {c N : Int} (hc : -1048576 ≤ c ∧ c ≤ 1048576) (hN : 0 ≤ N ∧ N ≤ 1025) : -1074790400 ≤ c * N ∧ c * N ≤ 1074790400 := by
  have h1 : c * N ≤ 1048576 * N := Int.mul_le_mul_of_nonneg_right hc.2 hN.1
  have h2 : -1048576 * N ≤ c * N := Int.mul_le_mul_of_nonneg_right hc.1 hN.1
  omega
theorem scaling_T (S : MS own h bn n m fr to cap b cost room ex pot) (E : EvP n m fr to cap b) (hk : ∀ i, i < m → -1048576 ≤ k i ∧ k i ≤ 1048576) (hcost : ∀ a, a < 2 * m → cost a = cA k a)
    (r0 : ∀ i, i < m → room (2 * i + 1) = 0) (p0 : ∀ v, v < n → pot v = 0) (C1 : B1 own h 10 bs [.pointer (some (bk bn)), .int .i64 0]) :
    T Tryz.prog F.mincost_scaling_meet [.pointer (some (bk bs))] h (MeetA [3, 6, 7, 8, 10, 13, 20, 21, 22] own h bn n m fr to cap b cost) := by
  have hm1 := E.m1
  have hn1 := E.n1
  have hcb : ∀ a, a < 2 * m → -1048576 ≤ cost a ∧ cost a ≤ 1048576 := fun a ha => by rw [hcost a ha]; exact cA_bd hk ha
  have hcpr : ∀ a, a < 2 * m → cost (prA a) = - cost a := fun a ha => by rw [hcost a ha, hcost _ (prA_lt ha), cA_pr]
  refine E_mincost_scaling_meet ?_
  unfold B_mincost_scaling_meet
  obtain ⟨vf, vt, vr, vc, vo, vx, vp, outs, k8, k1, k2, k3, k4, k5, k6, k7, ko⟩ := S.net.q
  refine ptrP_mk ⟨_, C1.ld0 rfl, ptrP_mk ⟨_, k8.ld rfl, ptrP_mk (k4.len (ints_length _ _) fun _ _ => ⟨_, C1.ld0 rfl, mk_ints 4 (by omega) (by omega) ?_⟩)⟩⟩
  intro b10 q10 hb10 x10 S10
  simp only [Int.toNat_natCast]
  have kz := (S10 own)
  have kold : S1 (own1 own b10 13) q10 4 vc (ints (2 * m) cost) := k4.nw x10 hb10
  have FB : Fm [3, 6, 7, 8, 10, 13, 20, 21, 22] own h (own1 own b10 13) q10 := Fm.new x10 hb10
  have hA : own1 own b10 4 b10 = 4 := own1_at
  have eB : ∀ ow : Own, own1 (own1 ow b10 4) b10 13 = own1 ow b10 13 := fun ow => by funext c; unfold own1; split <;> rfl
  have C1 := C1.nw (j := 4) x10 hb10
  have k1 := k1.nw (j := 4) x10 hb10
  have k2 := k2.nw (j := 4) x10 hb10
  have k3 := k3.nw (j := 4) x10 hb10
  have k5 := k5.nw (j := 4) x10 hb10
  have k6 := k6.nw (j := 4) x10 hb10
  have k7 := k7.nw (j := 4) x10 hb10
  have k8 := k8.nw (j := 4) x10 hb10
  have ko := fun v hv => (ko v hv).nw (j := 4) x10 hb10
  rw [← eB] at kold FB
  generalize own1 own b10 4 = ow at *
  refine ptrP_mk (k8.st (by simp) fun g F1 k8 => ?_)
  have C1 := C1.fm F1 (by simp <;> omega)
  have k1 := k1.fm F1 (by simp <;> omega)
  have k2 := k2.fm F1 (by simp <;> omega)
  have k3 := k3.fm F1 (by simp <;> omega)
  have kz := kz.fm F1 (by simp <;> omega)
  have k5 := k5.fm F1 (by simp <;> omega)
  have k6 := k6.fm F1 (by simp <;> omega)
  have k7 := k7.fm F1 (by simp <;> omega)
  have ko := fun v hv => (ko v hv).fm F1 (by simp; omega)
  have F1b := F1.re (b := b10) (j := 13) (by rw [hA]; simp)
  have kold := kold.fm F1b (by simp)
  have FB := FB.trans (F1b.mono (by simp))
  have S1_ : MS ow g bn n m fr to cap b (fun _ => 0) room ex pot := ⟨⟨vf, vt, vr, slV b10 (2 * m), vo, vx, vp, outs, k8, k1, k2, k3, kz, k5, k6, k7, ko⟩, S.rm, S.bal⟩
  have hz10 : ∃ o, g b10 = some o := kz.sl.1.ex_
  have k8g := k8
  clear S10 k1 k2 k3 kz k5 k6 k7 k8 ko F1 F1b S k4
  refine ptrP_mk ⟨_, C1.ld0 rfl, oneP_ptr ((ways_T (k := fun _ => 0) S1_ E (fun i hi => by omega) (fun a _ => by unfold cA; split <;> rfl) r0 p0).mono ?_)⟩
  rintro r q2 ⟨ow2, F2, hr⟩
  have hA2 : ow2 b10 = 4 := by obtain ⟨o, ho⟩ := hz10; rw [(F2.stay b10 o ho).2]; exact hA
  have F2b := F2.re (b := b10) (j := 13) (by rw [hA]; simp)
  have FB1 := FB
  have FB := FB.trans (F2b.mono (by simp))
  rcases hr with ⟨rfl, room1, ex1, pot1, S, ex0, _, _⟩ | ⟨bs_, sd, rfl, hbs, sS, hlack⟩
  rotate_left
  · exact ⟨own1 ow2 b10 13, FB, .inr ⟨bs_, sd, rfl, FB1.none hbs, sS, hlack⟩⟩
  have C1 := C1.fm F2 (by simp <;> omega)
  have kold := kold.fm F2b (by simp)
  obtain ⟨vf', vt', vr', vc', vo', vx', vp', outs', k8, k1, k2, k3, k4, k5, k6, k7, ko⟩ := S.net.q
  have hu := B1.uniq k8 (k8g.fm F2 (by simp))
  change [vf', vt', vr', vc', vo', vx', vp'] = [vf, vt, vr, slV b10 (2 * m), vo, vx, vp] at hu
  simp only [List.cons.injEq, and_true] at hu
  rw [hu.2.2.2.1] at k8 k4
  have sl := k4.sl.1
  clear S1_ FB1 F2 F2b hA hz10 eB r0 p0 x10 hb10 k8g k4
  have rm := S.rm
  have bal := S.bal
  clear S
  refine rt_ret ⟨rfl, ptrP_mk ⟨_, C1.ld0 rfl, ptrP_mk ⟨_, k8.ld rfl, k5.len (va_length _ _) fun _ _ => ptrP_mk (C1.st (by simp) fun g1 F3 C1 => ?_)⟩⟩⟩
  have k1 := k1.fm F3 (by simp <;> omega)
  have k2 := k2.fm F3 (by simp <;> omega)
  have k3 := k3.fm F3 (by simp <;> omega)
  have k5 := k5.fm F3 (by simp <;> omega)
  have k6 := k6.fm F3 (by simp <;> omega)
  have k7 := k7.fm F3 (by simp <;> omega)
  have k8 := k8.fm F3 (by simp <;> omega)
  have ko := fun v hv => (ko v hv).fm F3 (by simp; omega)
  have F3b := F3.re (b := b10) (j := 13) (by rw [hA2]; simp)
  have kold := kold.fm F3b (by simp)
  have FB := FB.trans (F3b.mono (by simp))
  have sl : Sl g1 b10 (slV b10 (2 * m)) (ints (2 * m) fun _ => 0) := ((S1.of (i := 4) sl ow2).fm (F3.re (b := b10) (j := 4) (by rw [hA2]; simp)) (by simp)).sl.1
  clear F3 F3b
  rw [i64_inc (by omega)]
  refine kold.len (ints_length _ _) fun _ _ => ?_
  let I : (Int × Unit) → H → Nat → Prop := fun p q z => ∃ (s : Nat) (ce : Nat → Int) (W : Int), p.1 = s ∧ s ≤ 2 * m ∧ z = 2 * m - s ∧ Fm [3, 6, 7, 8, 10, 13, 20, 21, 22] own h (own1 ow2 b10 13) q ∧ B1 ow2 q 10 bs [.pointer (some (bk bn)), .int .i64 W] ∧ S1 (own1 ow2 b10 13) q 4 vc (ints (2 * m) cost) ∧
    Sl q b10 (slV b10 (2 * m)) (ints (2 * m) ce) ∧ B1 ow2 q 8 bn [vf', vt', vr', slV b10 (2 * m), vo', vx', vp'] ∧ S1 ow2 q 1 vf' (ints (2 * m) fun a => (tlA fr to a : Nat)) ∧ S1 ow2 q 2 vt' (ints (2 * m) fun a => (hdA fr to a : Nat)) ∧
    S1 ow2 q 3 vr' (ints (2 * m) room1) ∧ S1 ow2 q 5 vo' (va n outs') ∧ S1 ow2 q 6 vx' (ints n ex1) ∧ S1 ow2 q 7 vp' (ints n pot1) ∧ (∀ v, v < n → S1 ow2 q (40 + v) (outs' v) (natV (arcsL fr to m v))) ∧
    (∀ a, a < s → ce a = cost a * ((n + 1 : Nat) : Int) ∧ cost a * ((n + 1 : Nat) : Int) ≤ W) ∧ 1 ≤ W ∧ W ≤ 1074790400
  refine ⟨fun p q => ∃ k, I p q k, rk I, rk_wf I, ⟨_, 0, _, 1, rfl, by omega, rfl, FB, C1, kold, sl, k8, k1, k2, k3, k5, k6, k7, ko, fun a ha => by omega, by omega, by omega⟩, ?_⟩
  clear FB C1 kold sl k8 k1 k2 k3 k5 k6 k7 ko
  intro p q hI
  obtain ⟨s, ce, W, e1, hs, hz, FB, C1, kold, sl, k8, k1, k2, k3, k5, k6, k7, ko, hce, W1, W2⟩ := mu_spec hI
  generalize hkk : mu I ((p, ()), q) = km at *
  change p = (s : Int) at e1
  subst e1
  have hlt : s < 2 * m → 2 * m - (s + 1) < mu I (((s : Int), ()), q) := fun h => by rw [hkk, hz]; exact sub_dec h
  clear hI
  refine ifP_of (fun h1 => ?_) (fun h1 => ?_)
  · have hsm : s < 2 * m := by have := of_decide_eq_true h1; omega
    rw [i64_inc (by omega)]
    have cb := mul_bd (hcb s hsm) (N := ((n + 1 : Nat) : Int)) (by omega)
    have ew : IntKind.i64.wrap (cost s * ((n + 1 : Nat) : Int)) = cost s * ((n + 1 : Nat) : Int) := w64_in (by omega) (by omega)
    refine kold.rdI hsm ?_
    rw [ew]
    refine ptrP_mk ⟨_, C1.ld0 rfl, ptrP_mk ⟨_, k8.ld rfl, sl.setJ hsm fun g F4 sl => ?_⟩⟩
    have FA : Fm [4] ow2 q ow2 g := Fm.kp F4 hA2 sl.ex_
    have FB2 : Fm [13] (own1 ow2 b10 13) q (own1 ow2 b10 13) g := Fm.kp F4 own1_at sl.ex_
    have C1 := C1.fm FA (by simp <;> omega)
    have k1 := k1.fm FA (by simp <;> omega)
    have k2 := k2.fm FA (by simp <;> omega)
    have k3 := k3.fm FA (by simp <;> omega)
    have k5 := k5.fm FA (by simp <;> omega)
    have k6 := k6.fm FA (by simp <;> omega)
    have k7 := k7.fm FA (by simp <;> omega)
    have k8 := k8.fm FA (by simp <;> omega)
    have ko := fun v hv => (ko v hv).fm FA (by simp; omega)
    have kold := kold.fm FB2 (by simp)
    have FB := FB.trans (FB2.mono (by simp))
    have hx : ∃ o, g b10 = some o := sl.ex_
    refine ptrP_mk ⟨_, C1.ld rfl, ptrP_mk (C1.st (by simp) fun g2 F5 C1 => ?_)⟩
    have k1 := k1.fm F5 (by simp <;> omega)
    have k2 := k2.fm F5 (by simp <;> omega)
    have k3 := k3.fm F5 (by simp <;> omega)
    have k5 := k5.fm F5 (by simp <;> omega)
    have k6 := k6.fm F5 (by simp <;> omega)
    have k7 := k7.fm F5 (by simp <;> omega)
    have k8 := k8.fm F5 (by simp <;> omega)
    have ko := fun v hv => (ko v hv).fm F5 (by simp; omega)
    have F5b := F5.re (b := b10) (j := 13) (by rw [hA2]; simp)
    have kold := kold.fm F5b (by simp)
    have FB := FB.trans (F5b.mono (by simp))
    have sl := ((S1.of (i := 4) sl ow2).fm (F5.re (b := b10) (j := 4) (by rw [hA2]; simp)) (by simp)).sl.1
    refine mu_next (I := I) (k := 2 * m - (s + 1)) ⟨s + 1, _, _, rfl, hsm, rfl, FB, C1, kold, sl, k8, k1, k2, k3, k5, k6, k7, ko, fun a ha => ?_, ?_, ?_⟩ (hlt hsm)
    · by_cases e : a = s
      · subst e
        refine ⟨upd_at, ?_⟩
        split <;> omega
      · have := hce a (by omega)
        rw [upd_ne e]
        refine ⟨this.1, ?_⟩
        split <;> omega
    · split <;> omega
    · split <;> omega
  have : s = 2 * m := by have := of_decide_eq_false h1; omega
  subst this
  clear hlt hkk hz h1 hs
  refine ptrP_mk ⟨_, C1.ld0 rfl, ptrP_mk ⟨_, k8.ld rfl, k7.clr fun g F4 k7 => ?_⟩⟩
  have C1 := C1.fm F4 (by simp <;> omega)
  have k1 := k1.fm F4 (by simp <;> omega)
  have k2 := k2.fm F4 (by simp <;> omega)
  have k3 := k3.fm F4 (by simp <;> omega)
  have k5 := k5.fm F4 (by simp <;> omega)
  have k6 := k6.fm F4 (by simp <;> omega)
  have k8 := k8.fm F4 (by simp <;> omega)
  have ko := fun v hv => (ko v hv).fm F4 (by simp; omega)
  have F4b := F4.re (b := b10) (j := 13) (by rw [hA2]; simp)
  have kold := kold.fm F4b (by simp)
  have FB := FB.trans (F4b.mono (by simp))
  have sl := ((S1.of (i := 4) sl ow2).fm (F4.re (b := b10) (j := 4) (by rw [hA2]; simp)) (by simp)).sl.1
  have hcc : ints (2 * m) ce = ints (2 * m) fun a => cost a * ((n + 1 : Nat) : Int) := ints_ext fun a ha => (hce a ha).1
  rw [hcc] at sl
  have k4 : S1 ow2 g 4 (slV b10 (2 * m)) (ints (2 * m) fun a => cost a * ((n + 1 : Nat) : Int)) := .inr ⟨b10, hA2, sl⟩
  have hx10 := sl.ex_
  have S : MS ow2 g bn n m fr to cap b (fun a => cost a * ((n + 1 : Nat) : Int)) room1 ex1 (fun _ => 0) := ⟨⟨vf', vt', vr', slV b10 (2 * m), vo', vx', vp', outs', k8, k1, k2, k3, k4, k5, k6, k7, ko⟩, rm, bal⟩
  clear k1 k2 k3 k4 k5 k6 k7 k8 ko F4 F4b hcc sl rm bal
  have hcpr2 : ∀ a, a < 2 * m → cost (prA a) * ((n + 1 : Nat) : Int) = -(cost a * ((n + 1 : Nat) : Int)) := fun a ha => by rw [hcpr a ha, Int.neg_mul]
  have hW : ∀ a, a < 2 * m → -W ≤ cost a * ((n + 1 : Nat) : Int) := fun a ha => by
    have := (hce _ (prA_lt ha)).2
    rw [hcpr2 a ha] at this; omega
  have hcb2 : ∀ a, a < 2 * m → -1074790400 ≤ cost a * ((n + 1 : Nat) : Int) ∧ cost a * ((n + 1 : Nat) : Int) ≤ 1074790400 := fun a ha => mul_bd (hcb a ha) (by omega)
  let I2 : Unit → H → Nat → Prop := fun _ q z => ∃ (ow : Own) (room' ex' pot' : Nat → Int) (e : Int), z = e.toNat ∧ ow b10 = 4 ∧ (∃ o, q b10 = some o) ∧ Fm [3, 6, 7, 8, 10, 13, 20, 21, 22] own h (own1 ow b10 13) q ∧ B1 ow q 10 bs [.pointer (some (bk bn)), .int .i64 e] ∧ S1 (own1 ow b10 13) q 4 vc (ints (2 * m) cost) ∧
    MS ow q bn n m fr to cap b (fun a => cost a * ((n + 1 : Nat) : Int)) room' ex' pot' ∧ (∀ v, v < n → ex' v = 0) ∧ (∀ a, a < 2 * m → 0 < room' a → -e ≤ redC fr to (fun a => cost a * ((n + 1 : Nat) : Int)) pot' a) ∧ (∀ v, v < n → -(3072 * (1074790400 - e)) ≤ pot' v ∧ pot' v ≤ 0) ∧ 1 ≤ e ∧ e ≤ 1074790400
  refine ⟨fun p q => ∃ k, I2 p q k, rk I2, rk_wf I2, ⟨_, ow2, room1, ex1, _, W, rfl, hA2, hx10, FB, C1, kold, S, ex0, fun a ha _ => ?_, fun v hv => by omega, W1, W2⟩, ?_⟩
  · unfold redC; dsimp only; have := hW a ha; omega
  clear FB C1 kold S ex0 hx10 hA2 hW hce
  intro q hI
  obtain ⟨ow, room', ex', pot', e, hz, hA, hx10, FB, C1, kold, S, ex0, hge, hpb, e1, e2⟩ := mu_spec hI
  generalize hkk : mu I2 ((), q) = km at *
  clear hI
  refine ptrP_mk ⟨_, C1.ld rfl, ifP_of (fun h1 => ?_) (fun h1 => ?_)⟩
  · have h1 := of_decide_eq_true h1
    refine ptrP_mk ⟨_, C1.ld rfl, by omega, ptrP_mk ?_⟩
    have ed : e.tdiv 4 = e / 4 := Int.tdiv_eq_ediv_of_nonneg (by omega)
    have ew : IntKind.i64.wrap (e.tdiv 4) = e / 4 := by rw [ed]; exact w64_in (by omega) (by omega)
    obtain ⟨w, hw⟩ : ∃ w, w = (if 1 < e / 4 then e / 4 else 1) := ⟨_, rfl⟩
    show stC q ((bk bs).add 1) (.int .i64 (if 1 < IntKind.i64.wrap (e.tdiv 4) then IntKind.i64.wrap (e.tdiv 4) else 1)) _
    rw [ew, ← hw]
    have w1 : 1 ≤ w ∧ 2 * w ≤ e := by rw [hw]; split <;> omega
    refine C1.st (by simp) fun g F4 C1 => ?_
    have S := S.fm F4 (by simp)
    have F4b := F4.re (b := b10) (j := 13) (by rw [hA]; simp)
    have kold := kold.fm F4b (by simp)
    have FB := FB.trans (F4b.mono (by simp))
    have hx10 : ∃ o, g b10 = some o := by obtain ⟨o, ho⟩ := hx10; exact (F4.stay b10 o ho).1
    have hnw : 0 ≤ (n : Int) * (w + e) ∧ (n : Int) * (w + e) ≤ 1024 * (w + e) := ⟨Int.mul_nonneg (by omega) (by omega), Int.mul_le_mul_of_nonneg_right (by omega) (by omega)⟩
    have Z : Rf0 n m fr to cap b (fun a => cost a * ((n + 1 : Nat) : Int)) room' pot' w e := by
      refine ⟨S.rm, fun v hv => by have := S.bal v hv; have := ex0 v hv; omega, hge, w1.1, by omega, hcpr2, fun a ha => by have := hcb2 a ha; omega, fun v hv => ?_⟩
      have := hpb v hv
      generalize (n : Int) * (w + e) = G at *
      omega
    refine (refine_T S E Z C1).mono ?_
    rintro _ q3 ⟨rfl, ow3, room3, ex3, pot3, F5, S3, ex30, ge3, lo3⟩
    have F5b := F5.re (b := b10) (j := 13) (by rw [hA]; simp)
    have hA3 : ow3 b10 = 4 := by obtain ⟨o, ho⟩ := hx10; rw [(F5.stay b10 o ho).2]; exact hA
    refine rt_ret ⟨rfl, mu_next (I := I2) (k := w.toNat) ⟨ow3, room3, ex3, pot3, w, rfl, hA3, by obtain ⟨o, ho⟩ := hx10; exact (F5.stay b10 o ho).1, FB.trans (F5b.mono (by simp)), C1.fm F5 (by simp), kold.fm F5b (by simp), S3, ex30, ge3, fun v hv => ?_, w1.1, by omega⟩ (by rw [hkk, hz]; omega)⟩
    have := hpb v hv
    have := lo3 v hv
    generalize (n : Int) * (w + e) = G at *
    omega
  have he : e = 1 := by have := of_decide_eq_false h1; omega
  subst he
  obtain ⟨vf, vt, vr, vc', vo, vx, vp, outs, k8, k1, k2, k3, k4, k5, k6, k7, ko⟩ := S.net.q
  have C2 : B1 (own1 ow b10 13) q 10 bs _ := C1.re (b := b10) (j := 13) (by rw [hA]; simp)
  have k8 : B1 (own1 ow b10 13) q 8 bn _ := k8.re (b := b10) (j := 13) (by rw [hA]; simp)
  have k1 := k1.re (b := b10) (j := 13) (by rw [hA]; simp)
  have k2 := k2.re (b := b10) (j := 13) (by rw [hA]; simp)
  have k3 := k3.re (b := b10) (j := 13) (by rw [hA]; simp)
  have k5 := k5.re (b := b10) (j := 13) (by rw [hA]; simp)
  have k6 := k6.re (b := b10) (j := 13) (by rw [hA]; simp)
  have k7 := k7.re (b := b10) (j := 13) (by rw [hA]; simp)
  have ko := fun v hv => (ko v hv).re (b := b10) (j := 13) (by rw [hA]; omega)
  generalize own1 ow b10 13 = owB at *
  refine ptrP_mk ⟨_, C2.ld0 rfl, ptrP_mk (kold.one_ (k8.st (by simp) fun g F4 k8 => ?_))⟩
  have C2 := C2.fm F4 (by simp <;> omega)
  have k1 := k1.fm F4 (by simp <;> omega)
  have k2 := k2.fm F4 (by simp <;> omega)
  have k3 := k3.fm F4 (by simp <;> omega)
  have kold := kold.fm F4 (by simp <;> omega)
  have k5 := k5.fm F4 (by simp <;> omega)
  have k6 := k6.fm F4 (by simp <;> omega)
  have k7 := k7.fm F4 (by simp <;> omega)
  have ko := fun v hv => (ko v hv).fm F4 (by simp; omega)
  have FB := FB.trans (F4.mono (by simp))
  have SB : MS owB g bn n m fr to cap b cost room' ex' pot' := ⟨⟨vf, vt, vr, vc, vo, vx, vp, outs, k8, k1, k2, k3, kold, k5, k6, k7, ko⟩, S.rm, S.bal⟩
  refine ptrP_mk ⟨_, C2.ld0 rfl, oneP_ptr ((turn_T SB E hk hcost).mono ?_)⟩
  rintro _ q4 ⟨ow4, F5, ⟨rfl, pot2, S2, red, pb⟩ | ⟨rfl, neg, _⟩⟩
  · refine rt_ret ⟨_, rfl, ow4, FB.trans (F5.mono (by simp)), .inl ⟨rfl, room', ex', pot2, S2, ex0, red, fun v hv => by have := pb v hv; omega⟩⟩
  · exact absurd neg (NegC.no hge)
end

end Go.Proofs.YtjlojokockfapaaGreatDoor

namespace Go.Proofs.YtjlojokockfapaaGreatDoor
open Go
set_option linter.unusedVariables false
set_option linter.unusedSimpArgs false

section
variable {h : H} {w : List Value} {n m l : Nat} {es : Nat → Ed} {sv : Value} {bf : Nat → Int}
theorem mnet_T (G : GrA h w n m es) (g : Gd n m es) (Z : RS h sv (ints n bf)) : T Tryz.prog F.mincost_newNet [.agg ⟨w⟩, sv] h fun r h' =>
    ∃ bn own, r = .ret (.pointer (some (bk bn))) ∧ Bs h own h' ∧ MN own h' bn n m (frE es) (toE es) (room0 (cpE es)) (cA (ckE es)) bf (fun _ => 0) := by
  have n1 := g.n1
  have m1 := g.m1
  refine E_mincost_newNet ?_
  unfold B_mincost_newNet
  refine new_bl ?_
  intro b1 g1 hb1 x1 B
  obtain ⟨a, c, rfl, hc⟩ := G
  have Z := Z.ext x1
  have bs : Bs h (own1 (fun _ => 0) b1 9) g1 := Bs.start.new x1 hb1
  have k9 : B1 (own1 (fun _ => 0) b1 9) g1 9 b1 [.int .i64 n, .slice a m c] := B1.new B
  generalize own1 (fun _ => 0) b1 9 = own at *
  refine ⟨_, k9.ld0 rfl, _, k9.ld0 rfl, new_put ?_⟩
  intro b5 g6 hb5 x5 h5
  have k6 : S1 (own1 own b5 6) g6 6 (.slice (some (bk b5)) 0 0) [] := .inr ⟨b5, own1_at, 0, 2, [], rfl, h5, rfl⟩
  have bs := bs.nw (j := 6) x5 hb5
  have k9 := k9.nw (j := 6) x5 hb5
  have Z := Z.ext x5
  generalize own1 own b5 6 = own at *
  refine k6.catR Z (by
    intro v hv
    unfold ints at hv
    obtain ⟨j, _, rfl⟩ := List.mem_map.1 hv
    rfl) (by omega) (by rw [ints_length]; simp; omega) ?_
  intro s7 own2 g8 F1 k6
  rw [List.nil_append] at k6
  have k9' := k9.fm F1 (by simp)
  have bs := bs.fm F1 (by simp)
  refine ⟨sameAt_b1 (j := 0) k9 k9', sameAt_b1 (j := 0) k9 k9', mk_S1 5 (by omega) (by omega) ?_⟩
  have k9 := k9'
  clear k9'
  intro b9 g10 hb9 x9 S9
  have k5 := S9 own2
  have bs := bs.nw (j := 5) x9 hb9
  have k9 := k9.nw (j := 5) x9 hb9
  have k6 := k6.nw (j := 5) x9 hb9
  generalize own1 own2 b9 5 = own at *
  clear S9
  refine mk_ints 7 (by omega) (by omega) ?_
  intro b11 g12 hb11 x11 S11
  have k7 := S11 own
  have bs := bs.nw (j := 7) x11 hb11
  have k9 := k9.nw (j := 7) x11 hb11
  have k6 := k6.nw (j := 7) x11 hb11
  have k5 := k5.nw (j := 7) x11 hb11
  generalize own1 own b11 7 = own at *
  clear S11
  simp only [Int.toNat_natCast]
  refine oneP_slc k6.isS (new_bl ?_)
  intro b13 g14 hb13 x13 B13
  have k8 : B1 (own1 own b13 8) g14 8 b13 _ := B1.new B13
  have bs := bs.nw (j := 8) x13 hb13
  have k9 := k9.nw (j := 8) x13 hb13
  have k6 := k6.nw (j := 8) x13 hb13
  have k5 := k5.nw (j := 8) x13 hb13
  have k7 := k7.nw (j := 8) x13 hb13
  generalize own1 own b13 8 = own at *
  refine ⟨_, k9.ld rfl, slcP_mk ?_⟩
  let I : (Int × Unit) → H → Nat → Prop := fun p q k => ∃ (i : Nat) (own : Own) (vf vt vr vc : Value) (outs : Nat → Value), p.1 = i ∧ i ≤ m ∧ k = m - i ∧ Bs h own q ∧
    B1 own q 9 b1 [.int .i64 n, .slice a m c] ∧
    B1 own q 8 b13 [vf, vt, vr, vc, .slice (some (bk b9)) n n, s7, .slice (some (bk b11)) n n] ∧ S1 own q 1 vf (ints (2 * i) fun a => (tlA (frE es) (toE es) a : Nat)) ∧ S1 own q 2 vt (ints (2 * i) fun a => (hdA (frE es) (toE es) a : Nat)) ∧
    S1 own q 3 vr (ints (2 * i) (room0 (cpE es))) ∧ S1 own q 4 vc (ints (2 * i) (cA (ckE es))) ∧ S1 own q 5 (.slice (some (bk b9)) n n) (va n outs) ∧ S1 own q 6 s7 (ints n bf) ∧ S1 own q 7 (.slice (some (bk b11)) n n) (ints n fun _ => 0) ∧
    ∀ v, v < n → S1 own q (40 + v) (outs v) (natV (arcsL (frE es) (toE es) i v))
  refine ⟨fun s g2 => ∃ k, I s g2 k, rk I, rk_wf I, ⟨_, 0, own, _, _, _, _, _, rfl, by omega, rfl, bs, k9, k8, S1.nil, S1.nil, S1.nil, S1.nil, k5, k6, k7, fun v hv => S1.nil⟩, ?_⟩
  clear bs k9 k8 k5 k6 k7
  intro p q hI
  obtain ⟨i, own, vf, vt, vr, vc, outs, e1, hi, hk, bs, k9, k8, k1, k2, k3, k4, k5, k6, k7, ko⟩ := mu_spec hI
  generalize hkk : mu I ((p, ()), q) = k at *
  change p = (i : Int) at e1
  subst e1
  refine ifP_of (fun h1 => ?_) (fun h1 => ?_)
  · have him : i < m := by have := of_decide_eq_true h1; omega
    obtain ⟨ad, rfl, hcc⟩ := hc i him
    have ef := g.fr him
    have et := g.to him
    refine ⟨by omega, by omega, ?_⟩
    rw [Int.toNat_natCast]
    refine ⟨(es i).vs, rfl, fun j v hj => bs.ext.cell (hcc j v hj), ?_⟩
    refine new_bl_st rfl rfl (ed_one _) ?_
    intro b18 g20 hb18 x20 B18
    have kE : B1 (own1 own b18 10) g20 10 b18 (es i).vs := B1.new B18
    have bs := bs.nw (j := 10) x20 hb18
    have k9 := k9.nw (j := 10) x20 hb18
    have k8 := k8.nw (j := 10) x20 hb18
    have k1 := k1.nw (j := 10) x20 hb18
    have k2 := k2.nw (j := 10) x20 hb18
    have k3 := k3.nw (j := 10) x20 hb18
    have k4 := k4.nw (j := 10) x20 hb18
    have k5 := k5.nw (j := 10) x20 hb18
    have k6 := k6.nw (j := 10) x20 hb18
    have k7 := k7.nw (j := 10) x20 hb18
    have ko := fun v hv => (ko v hv).nw (j := 10) x20 hb18
    generalize own1 own b18 10 = own at *
    refine ⟨_, k8.ld rfl, k2.len (ints_length _ _) fun _ _ => ⟨_, k8.ld0 rfl, _, kE.ld0 rfl, _, kE.ld rfl, ?_⟩⟩
    -- from
    refine k1.push rfl (by simp [Value.oneCell']) (by simp) (by omega) (by rw [ints_length]; omega) ?_
    intro _ _ vf' own2 g31 _ _ F2 k1
    refine oneP_slc k1.isS ?_
    have bs := bs.fm F2 (by simp <;> omega)
    have k9 := k9.fm F2 (by simp <;> omega)
    have kE := kE.fm F2 (by simp <;> omega)
    have k8 := k8.fm F2 (by simp <;> omega)
    have k2 := k2.fm F2 (by simp <;> omega)
    have k3 := k3.fm F2 (by simp <;> omega)
    have k4 := k4.fm F2 (by simp <;> omega)
    have k5 := k5.fm F2 (by simp <;> omega)
    have k6 := k6.fm F2 (by simp <;> omega)
    have k7 := k7.fm F2 (by simp <;> omega)
    have ko := fun v hv => (ko v hv).fm F2 (by simp <;> omega)
    refine k8.st (by simp) ?_
    intro g32 F3 k8
    simp only [List.set] at k8
    have bs := bs.fm F3 (by simp <;> omega)
    have k9 := k9.fm F3 (by simp <;> omega)
    have kE := kE.fm F3 (by simp <;> omega)
    have k1 := k1.fm F3 (by simp <;> omega)
    have k2 := k2.fm F3 (by simp <;> omega)
    have k3 := k3.fm F3 (by simp <;> omega)
    have k4 := k4.fm F3 (by simp <;> omega)
    have k5 := k5.fm F3 (by simp <;> omega)
    have k6 := k6.fm F3 (by simp <;> omega)
    have k7 := k7.fm F3 (by simp <;> omega)
    have ko := fun v hv => (ko v hv).fm F3 (by simp <;> omega)
    rw [ef.1, et.1, ints_snoc2 (by rw [tlA_0]) (by rw [tlA_1])] at k1
    -- to
    refine ⟨_, k8.ld rfl, _, kE.ld rfl, _, kE.ld0 rfl, ?_⟩
    refine k2.push rfl (by simp [Value.oneCell']) (by simp) (by omega) (by rw [ints_length]; omega) ?_
    intro _ _ vt' own3 g38 _ _ F2 k2
    refine oneP_slc k2.isS ?_
    have bs := bs.fm F2 (by simp <;> omega)
    have k9 := k9.fm F2 (by simp <;> omega)
    have kE := kE.fm F2 (by simp <;> omega)
    have k8 := k8.fm F2 (by simp <;> omega)
    have k1 := k1.fm F2 (by simp <;> omega)
    have k3 := k3.fm F2 (by simp <;> omega)
    have k4 := k4.fm F2 (by simp <;> omega)
    have k5 := k5.fm F2 (by simp <;> omega)
    have k6 := k6.fm F2 (by simp <;> omega)
    have k7 := k7.fm F2 (by simp <;> omega)
    have ko := fun v hv => (ko v hv).fm F2 (by simp <;> omega)
    refine k8.st (by simp) ?_
    intro g39 F3 k8
    simp only [List.set] at k8
    have bs := bs.fm F3 (by simp <;> omega)
    have k9 := k9.fm F3 (by simp <;> omega)
    have kE := kE.fm F3 (by simp <;> omega)
    have k1 := k1.fm F3 (by simp <;> omega)
    have k2 := k2.fm F3 (by simp <;> omega)
    have k3 := k3.fm F3 (by simp <;> omega)
    have k4 := k4.fm F3 (by simp <;> omega)
    have k5 := k5.fm F3 (by simp <;> omega)
    have k6 := k6.fm F3 (by simp <;> omega)
    have k7 := k7.fm F3 (by simp <;> omega)
    have ko := fun v hv => (ko v hv).fm F3 (by simp <;> omega)
    rw [ef.1, et.1, ints_snoc2 (by rw [hdA_0]) (by rw [hdA_1])] at k2
    -- room
    refine ⟨_, k8.ld rfl, _, kE.ld rfl, ?_⟩
    refine k3.push rfl (by simp [Value.oneCell']) (by simp) (by omega) (by rw [ints_length]; omega) ?_
    intro _ _ vr' own4 g40 _ _ F2 k3
    refine oneP_slc k3.isS ?_
    have bs := bs.fm F2 (by simp <;> omega)
    have k9 := k9.fm F2 (by simp <;> omega)
    have kE := kE.fm F2 (by simp <;> omega)
    have k8 := k8.fm F2 (by simp <;> omega)
    have k1 := k1.fm F2 (by simp <;> omega)
    have k2 := k2.fm F2 (by simp <;> omega)
    have k4 := k4.fm F2 (by simp <;> omega)
    have k5 := k5.fm F2 (by simp <;> omega)
    have k6 := k6.fm F2 (by simp <;> omega)
    have k7 := k7.fm F2 (by simp <;> omega)
    have ko := fun v hv => (ko v hv).fm F2 (by simp <;> omega)
    refine k8.st (by simp) ?_
    intro g41 F3 k8
    simp only [List.set] at k8
    have bs := bs.fm F3 (by simp <;> omega)
    have k9 := k9.fm F3 (by simp <;> omega)
    have kE := kE.fm F3 (by simp <;> omega)
    have k1 := k1.fm F3 (by simp <;> omega)
    have k2 := k2.fm F3 (by simp <;> omega)
    have k3 := k3.fm F3 (by simp <;> omega)
    have k4 := k4.fm F3 (by simp <;> omega)
    have k5 := k5.fm F3 (by simp <;> omega)
    have k6 := k6.fm F3 (by simp <;> omega)
    have k7 := k7.fm F3 (by simp <;> omega)
    have ko := fun v hv => (ko v hv).fm F3 (by simp <;> omega)
    rw [ints_snoc2 (by unfold room0; rw [if_pos (by omega), show 2 * i / 2 = i by omega]) (by unfold room0; rw [if_neg (by omega)])] at k3
    -- cost
    have kb := g.k i him
    have ew : IntKind.i64.wrap (0 - (es i).k) = -(es i).k := by rw [show (0 : Int) - (es i).k = -(es i).k by omega]; exact w64_in (by omega) (by omega)
    refine ⟨_, k8.ld rfl, _, kE.ld rfl, _, kE.ld rfl, ?_⟩
    show newP _ (.cells ⟨[.int .i64 (es i).k, .int .i64 (IntKind.i64.wrap (0 - (es i).k))]⟩ _ _) _
    rw [ew]
    refine k4.push rfl (by simp [Value.oneCell']) (by simp) (by omega) (by rw [ints_length]; omega) ?_
    intro _ _ vc' own5 g42 _ _ F2 k4
    refine oneP_slc k4.isS ?_
    have bs := bs.fm F2 (by simp <;> omega)
    have k9 := k9.fm F2 (by simp <;> omega)
    have kE := kE.fm F2 (by simp <;> omega)
    have k8 := k8.fm F2 (by simp <;> omega)
    have k1 := k1.fm F2 (by simp <;> omega)
    have k2 := k2.fm F2 (by simp <;> omega)
    have k3 := k3.fm F2 (by simp <;> omega)
    have k5 := k5.fm F2 (by simp <;> omega)
    have k6 := k6.fm F2 (by simp <;> omega)
    have k7 := k7.fm F2 (by simp <;> omega)
    have ko := fun v hv => (ko v hv).fm F2 (by simp <;> omega)
    refine k8.st (by simp) ?_
    intro g43 F3 k8
    simp only [List.set] at k8
    have bs := bs.fm F3 (by simp <;> omega)
    have k9 := k9.fm F3 (by simp <;> omega)
    have kE := kE.fm F3 (by simp <;> omega)
    have k1 := k1.fm F3 (by simp <;> omega)
    have k2 := k2.fm F3 (by simp <;> omega)
    have k3 := k3.fm F3 (by simp <;> omega)
    have k4 := k4.fm F3 (by simp <;> omega)
    have k5 := k5.fm F3 (by simp <;> omega)
    have k6 := k6.fm F3 (by simp <;> omega)
    have k7 := k7.fm F3 (by simp <;> omega)
    have ko := fun v hv => (ko v hv).fm F3 (by simp <;> omega)
    rw [ints_snoc2 (by rw [cA_0]) (by rw [cA_1])] at k4
    -- out of its start
    refine ⟨_, k8.ld rfl, _, kE.ld0 rfl, _, k8.ld rfl, _, kE.ld0 rfl, ?_⟩
    rw [ef.1]
    refine k5.rdV ef.2 ?_
    have lf := arcsL_length (fr := frE es) (to := toE es) (v := frE es i) (i := i)
    refine (ko _ ef.2).push rfl (by simp [Value.oneCell']) (by simp) (by omega) (by rw [natV_length]; omega) ?_
    intro _ g47 so own6 g49 _ x47 F6 kn
    have kE' := kE
    have k8' := k8
    have bs := bs.fm F6 (by simp <;> omega)
    have k9 := k9.fm F6 (by simp <;> omega)
    have kE := kE.fm F6 (by simp <;> omega)
    have k8 := k8.fm F6 (by simp <;> omega)
    have k1 := k1.fm F6 (by simp <;> omega)
    have k2 := k2.fm F6 (by simp <;> omega)
    have k3 := k3.fm F6 (by simp <;> omega)
    have k4 := k4.fm F6 (by simp <;> omega)
    have k5 := k5.fm F6 (by simp <;> omega)
    have k6 := k6.fm F6 (by simp <;> omega)
    have k7 := k7.fm F6 (by simp <;> omega)
    have ko := fun v hv (hne : v ≠ frE es i) => (ko v hv).fm F6 (by simp <;> omega)
    refine ⟨sameAt_b1 (kE'.ext x47) kE, sameAt_b1 (k8'.ext x47) k8, ?_⟩
    clear kE' k8'
    refine k5.setO ef.2 kn.isS ?_
    intro g51 F7 k5
    have bs := bs.fm F7 (by simp <;> omega)
    have k9 := k9.fm F7 (by simp <;> omega)
    have kE := kE.fm F7 (by simp <;> omega)
    have k8 := k8.fm F7 (by simp <;> omega)
    have k1 := k1.fm F7 (by simp <;> omega)
    have k2 := k2.fm F7 (by simp <;> omega)
    have k3 := k3.fm F7 (by simp <;> omega)
    have k4 := k4.fm F7 (by simp <;> omega)
    have k6 := k6.fm F7 (by simp <;> omega)
    have k7 := k7.fm F7 (by simp <;> omega)
    have kn := kn.fm F7 (by simp <;> omega)
    have ko' : ∀ v, v < n → S1 own6 g51 (40 + v) (updV outs (frE es i) so v) (natV (arcsL (frE es) (toE es) i v ++ (if frE es i = v then [2 * i] else []))) := by
      intro v hv
      unfold updV
      by_cases e : v = frE es i
      · rw [if_pos e, if_pos e.symm, natV_append, e]; exact kn
      · rw [if_neg e, if_neg (fun h => e h.symm), List.append_nil]
        exact ((ko v hv e).fm F7 (by simp <;> omega))
    clear ko
    have ko := ko'
    clear ko'
    -- out of its end
    refine ⟨_, k8.ld rfl, _, kE.ld rfl, _, k8.ld rfl, _, kE.ld rfl, ?_⟩
    rw [et.1]
    refine k5.rdV et.2 ?_
    have lf := arcsL_length (fr := frE es) (to := toE es) (v := toE es i) (i := i)
    refine (ko _ et.2).push rfl (by simp [Value.oneCell']) (by simp) (by omega) (by rw [natV_length, List.length_append]; split <;> simp <;> omega) ?_
    intro _ g59 so2 own7 g61 _ x59 F8 kn
    have kE' := kE
    have k8' := k8
    have bs := bs.fm F8 (by simp <;> omega)
    have k9 := k9.fm F8 (by simp <;> omega)
    have kE := kE.fm F8 (by simp <;> omega)
    have k8 := k8.fm F8 (by simp <;> omega)
    have k1 := k1.fm F8 (by simp <;> omega)
    have k2 := k2.fm F8 (by simp <;> omega)
    have k3 := k3.fm F8 (by simp <;> omega)
    have k4 := k4.fm F8 (by simp <;> omega)
    have k5 := k5.fm F8 (by simp <;> omega)
    have k6 := k6.fm F8 (by simp <;> omega)
    have k7 := k7.fm F8 (by simp <;> omega)
    have ko := fun v hv (hne : v ≠ toE es i) => (ko v hv).fm F8 (by simp <;> omega)
    refine ⟨sameAt_b1 (kE'.ext x59) kE, sameAt_b1 (k8'.ext x59) k8, ?_⟩
    refine k5.setO et.2 kn.isS ?_
    intro g63 F9 k5
    have bs := bs.fm F9 (by simp <;> omega)
    have k9 := k9.fm F9 (by simp <;> omega)
    have k8 := k8.fm F9 (by simp <;> omega)
    have k1 := k1.fm F9 (by simp <;> omega)
    have k2 := k2.fm F9 (by simp <;> omega)
    have k3 := k3.fm F9 (by simp <;> omega)
    have k4 := k4.fm F9 (by simp <;> omega)
    have k6 := k6.fm F9 (by simp <;> omega)
    have k7 := k7.fm F9 (by simp <;> omega)
    have kn := kn.fm F9 (by simp <;> omega)
    rw [i64_inc (by omega)]
    refine mu_next (I := I) (k := m - (i + 1)) ⟨i + 1, own7, vf', vt', vr', vc', _, rfl, him, rfl, bs, k9, k8, k1, k2, k3, k4, k5, k6, k7, ?_⟩ (by rw [hkk, hk]; omega)
    intro v hv
    unfold updV arcsL
    rw [← List.append_assoc, natV_append]
    by_cases e : v = toE es i
    · rw [if_pos e, if_pos e.symm, e]
      have e2 : natV [2 * i + 1] = [.int .i64 (IntKind.i64.wrap (((2 * i : Nat) : Int) + 1))] := by rw [i64_inc (by omega)]; rfl
      rw [e2]; exact kn
    · rw [if_neg e, if_neg (c := toE es i = v) (fun h => e h.symm)]
      have := (ko v hv e).fm F9 (by simp <;> omega)
      simpa [natV, updV] using this
  · have : i = m := by have := of_decide_eq_false h1; omega
    subst this
    exact ⟨b13, own, rfl, bs, vf, vt, vr, vc, _, s7, _, outs, k8, k1, k2, k3, k4, k5, k6, k7, ko⟩
/-- Are they supplies? -/
def supOK (n : Int) (l : Nat) (bf : Nat → Int) : Prop := n = l ∧ (∀ v, v < l → -1048576 ≤ bf v ∧ bf v ≤ 1048576) ∧ sumN l bf = 0
theorem sumN_bd2 {f : Nat → Int} : ∀ {k : Nat}, (∀ i, i < k → -1048576 ≤ f i ∧ f i ≤ 1048576) → -(k * 1048576 : Int) ≤ sumN k f ∧ sumN k f ≤ k * 1048576
  | 0, _ => ⟨by show -((0 : Nat) * 1048576 : Int) ≤ 0; omega, by show (0 : Int) ≤ (0 : Nat) * 1048576; omega⟩
  | k + 1, h => by
    have ih := sumN_bd2 (f := f) (k := k) fun i hi => h i (by omega)
    have := h k (by omega)
    have e : sumN (k + 1) f = sumN k f + f k := rfl
    rw [e]
    have e2 : (((k + 1 : Nat) : Int) * 1048576) = k * 1048576 + 1048576 := by omega
    rw [e2]; omega
theorem supplied_T {n : Int} (G : GrA h w n m es) (hl : n ≤ 1024) (Z : RS h sv (ints l bf)) : T Tryz.prog F.mincost_supplied [.agg ⟨w⟩, sv] h fun r h' => Ext h h' ∧ ((supOK n l bf ∧ r = .ret (.int .i64 0)) ∨ (¬ supOK n l bf ∧ r = .ret (.int .i64 130))) := by
  refine E_mincost_supplied ?_
  unfold B_mincost_supplied
  refine new_bl ?_
  intro b1 q1 hb1 x1 B
  obtain ⟨a, c, rfl, hc⟩ := G
  have Z := Z.ext x1
  refine Z.len (ints_length _ _) fun _ _ => ⟨_, B.ld rfl, ifP_of (fun h1 => ?_) (fun h1 => ?_)⟩
  · refine ⟨x1, .inr ⟨fun h => ?_, rfl⟩⟩
    have := h.1
    simp at h1; omega
  have hln : n = l := by simp at h1; omega
  refine Z.len (ints_length _ _) fun _ _ => ?_
  let I : (Int × Int × Unit) → H → Nat → Prop := fun p q z => ∃ j : Nat, p.2.1 = j ∧ j ≤ l ∧ z = l - j ∧ q = q1 ∧ p.1 = sumN j bf ∧ ∀ v, v < j → -1048576 ≤ bf v ∧ bf v ≤ 1048576
  refine ⟨fun p q => ∃ k, I p q k, rk I, rk_wf I, ⟨_, 0, rfl, by omega, rfl, rfl, rfl, fun v hv => by omega⟩, ?_⟩
  intro sm p q hI
  obtain ⟨j, e1, hj, hz, e2, e3, hb⟩ := mu_spec hI
  generalize hkk : mu I ((sm, p, ()), q) = km at *
  change p = (j : Int) at e1
  change sm = sumN j bf at e3
  subst e1 e2 e3
  have hlt : j < l → l - (j + 1) < mu I ((sumN j bf, (j : Int), ()), q) := fun h => by rw [hkk, hz]; exact sub_dec h
  clear hI
  refine ifP_of (fun h2 => ?_) (fun h2 => ?_)
  · have hjl : j < l := by have := of_decide_eq_true h2; omega
    refine Z.rdI hjl (ifP_of (fun h3 => ?_) (fun h3 => ifP_of (fun h4 => ?_) (fun h4 => ?_)))
    · exact ⟨x1, .inr ⟨fun h => by have := h.2.1 j hjl; have := of_decide_eq_true h3; omega, rfl⟩⟩
    · exact ⟨x1, .inr ⟨fun h => by have := h.2.1 j hjl; have := of_decide_eq_true h4; omega, rfl⟩⟩
    · have h3 := of_decide_eq_false h3
      have h4 := of_decide_eq_false h4
      have sb := sumN_bd2 hb
      have ew : IntKind.i64.wrap (sumN j bf + bf j) = sumN (j + 1) bf := w64_in (by omega) (by omega)
      rw [ew, i64_inc (by omega)]
      refine mu_next (I := I) (k := l - (j + 1)) ⟨j + 1, rfl, hjl, rfl, rfl, rfl, fun v hv => ?_⟩ (hlt hjl)
      by_cases e : v = j
      · subst e; omega
      · exact hb v (by omega)
  · have : j = l := by have := of_decide_eq_false h2; omega
    subst this
    refine ifP_of (fun h3 => ?_) (fun h3 => ?_)
    · exact ⟨x1, .inr ⟨fun h => by have := h.2.2; simp at h3; omega, rfl⟩⟩
    · exact ⟨x1, .inl ⟨⟨hln, hb, by simp at h3; omega⟩, rfl⟩⟩
end

end Go.Proofs.YtjlojokockfapaaGreatDoor

namespace Go.Proofs.YtjlojokockfapaaGreatDoor
open Go
set_option linter.unusedVariables false
set_option linter.unusedSimpArgs false
set_option maxRecDepth 100000

def fstOf : Code → Code
  | .seq a _ => a
  | _ => .skip
def appC : List Code → Code → Code
  | [], X => X
  | c :: cs, X => .seq c (appC cs X)
def slotsP (fr : Fr) : List Nat → (List Value → Prop) → Prop
  | [], K => K []
  | t :: r, K => on (Fr.get fr t) fun v => slotsP fr r fun vs => K (v :: vs)
theorem on_some {α : Type} {x : Option α} {K : α → Prop} (h : on x K) : ∃ v, x = some v ∧ K v := by
  cases x with
  | none => exact h.elim
  | some v => exact ⟨v, rfl, h⟩
theorem FrOK.cons {fr : Fr} {a : Act} {t : Nat} {v : Value} (h : FrOK fr a) (hv : a.tmps[t]? = some v) : FrOK ((t, v) :: fr) a := by
  intro s q hq
  simp only [Fr.get] at hq
  cases e : Nat.beq t s with
  | true =>
    have := Nat.eq_of_beq_eq_true e
    subst this
    rw [e, cond_true] at hq
    rw [hv]; exact hq
  | false =>
    rw [e, cond_false] at hq
    exact h s q hq
/-- A prefix of the code, walked at once. -/
theorem appC_sound {P : Program} {n : Nat} {A : An} (hA : ∀ i, A.ct i = none) {X c : Code} {ds : List Deferred} {h0 : H} {w0 : World} {W : List Nat} {a0 : Act} {Q : Exit → Act → World → Prop} {Q0 : Ex → Fr → H → Prop}
    (hQ : ∀ e fr' h' a' w', Q0 e fr' h' → Rel n ds h0 w0 W a0 fr' h' a' w' → Exit.then (X.wp P Q) Q (cex e) a' w') : ∀ (cs : List Code) (fr : Fr) (h : H) (a : Act) (w : World), cpt P n A (appC cs c) fr h Q0 →
    (∀ t ∈ writesOf (appC cs c), has t W = true) → Rel n ds h0 w0 W a0 fr h a w → (appC cs (.seq c X)).wp P Q a w := by
  intro cs
  induction cs with
  | nil =>
    intro fr h a w hc hW rel
    exact wp_seq (cpt_sound c fr h Q0 hc ds h0 w0 W a0 a w _ hW rel hQ)
  | cons d cs ih =>
    intro fr h a w hc hW rel
    refine wp_seq ?_
    have hc2 : cpt P n A d fr h fun e fr h => match e with
        | .normal => cpt P n A (appC cs c) fr h Q0
        | e => Q0 e fr h := by
      have := hc
      unfold appC cpt at this
      rw [hA] at this
      exact this
    have hW1 : ∀ t ∈ writesOf d, has t W = true := fun t ht => hW t (by unfold appC writesOf; exact List.mem_append.2 (.inl ht))
    have hW2 : ∀ t ∈ writesOf (appC cs c), has t W = true := fun t ht => hW t (by show t ∈ writesOf (.seq d (appC cs c)); unfold writesOf; exact List.mem_append.2 (.inr ht))
    refine cpt_sound d fr h _ hc2 ds h0 w0 W a0 a w _ hW1 rel ?_
    intro e fr' h' a' w' hq rel'
    cases e with
    | normal => exact ih fr' h' a' w' hq hW2 rel'
    | exit i => exact hQ (.exit i) fr' h' a' w' hq rel'
    | ret => exact hQ .ret fr' h' a' w' hq rel'
    | panic v => exact hQ (.panic v) fr' h' a' w' hq rel'

def A_SolveA : An := ⟨lkA [(0, rng 5), (1, rng 4), (2, rng 3), (3, ⟨[1, 0, 2, 3, 4, 5, 6], lkN [(3, [2]), (4, [2]), (5, [2])]⟩), (4, rng 4), (5, rng 2), (6, rng 6), (7, rng 4), (8, rng 1), (9, rng 1), (10, rng 5), (11, rng 2), (12, rng 4), (13, rng 2), (14, rng 4), (15, rng 2), (16, rng 5)], lkL [], lkC []⟩
def BSolveA (p0_g : List Value) (p1_supply : Value) (p2_kind : Int) (N : List Value → H → Prop) (R : Res → H → Prop) (h : H) : Prop :=
  newP h (.cells ⟨p0_g⟩ 24 (0, 0)) fun b1 h2 =>
  newP h2 (.cells ⟨[.slice none 0 0, .slice none 0 0, .slice none 0 0]⟩ 45 (0, 0)) fun b3 h4 =>
  newP h4 (.cells ⟨[.int .i64 0]⟩ 2 (0, 0)) fun b5 h6 =>
  newP h6 (.cells ⟨[.slice none 0 0]⟩ 46 (0, 0)) fun b7 h8 =>
  newP h8 (.cells ⟨[.int .i64 0]⟩ 35 (0, 0)) fun b9 h10 =>
  ldN h10 (bk b1) 2 fun x11 =>
  T Tryz.prog F.graph_Check [.agg ⟨x11⟩] h10 (rt (fun v12 h13 =>
  ∃ r14 : List Value, r14.length = 2 ∧ v12 = .agg ⟨r14⟩ ∧
  newP h13 (.cells ⟨[.int .i64 0, .int .i64 0]⟩ 37 (0, 0)) fun b15 h16 =>
  stN h16 (bk b15) r14 2 fun h17 =>
  ldI h17 ((bk b15).add 0) .i64 fun x18 =>
  ifP (!decide (x18 = 0)) (ldN h17 (bk b3) 3 fun x19 =>
  ldI h17 ((bk b15).add 0) .i64 fun x20 =>
  stN h17 (bk b3) x19 3 fun h21 =>
  (sameAt 2 ((bk b15).add 0) h17 h21) ∧
  stC h21 (bk b5) (.int .i64 0) fun h22 =>
  (sameAt 2 ((bk b15).add 0) h21 h22) ∧
  stC h22 (bk b7) (.slice none 0 0) fun h23 =>
  (sameAt 2 ((bk b15).add 0) h22 h23) ∧
  stC h23 (bk b9) (.int .i64 x20) fun h24 =>
  ldN h24 (bk b3) 3 fun x25 =>
  ldI h24 (bk b5) .i64 fun x26 =>
  ldV h24 (bk b7) fun x27 =>
  ldI h24 (bk b9) .i64 fun x28 =>
  R (.ret (.tuple ⟨[.agg ⟨x25⟩, .int .i64 x26, x27, .int .i64 x28]⟩)) h24)
  (ldN h17 (bk b1) 2 fun x29 =>
  T Tryz.prog F.mincost_supplied [.agg ⟨x29⟩, p1_supply] h17 (rt (fun v30 h31 =>
  ∃ r32, v30 = .int .i64 r32 ∧
  ifP (!decide (r32 = 0)) (ldN h31 (bk b3) 3 fun x33 =>
  stN h31 (bk b3) x33 3 fun h34 =>
  stC h34 (bk b5) (.int .i64 0) fun h35 =>
  stC h35 (bk b7) (.slice none 0 0) fun h36 =>
  stC h36 (bk b9) (.int .i64 r32) fun h37 =>
  ldN h37 (bk b3) 3 fun x38 =>
  ldI h37 (bk b5) .i64 fun x39 =>
  ldV h37 (bk b7) fun x40 =>
  ldI h37 (bk b9) .i64 fun x41 =>
  R (.ret (.tuple ⟨[.agg ⟨x38⟩, .int .i64 x39, x40, .int .i64 x41]⟩)) h37)
  (ldN h31 (bk b1) 2 fun x42 =>
  T Tryz.prog F.mincost_newNet [.agg ⟨x42⟩, p1_supply] h31 (rt (fun v43 h44 =>
  ifP (decide (p2_kind = 1)) (oneP v43 (N [p1_supply, .pointer (some (bk b1)), .pointer (some (bk b3)), .pointer (some (bk b5)), .pointer (some (bk b7)), .pointer (some (bk b9)), v43, .iface 67 (.agg ⟨[v43]⟩)] h44))
  (ifP (decide (p2_kind = 2)) (oneP v43 (N [p1_supply, .pointer (some (bk b1)), .pointer (some (bk b3)), .pointer (some (bk b5)), .pointer (some (bk b7)), .pointer (some (bk b9)), v43, .iface 68 (.agg ⟨[v43]⟩)] h44))
  (ifP (decide (p2_kind = 3)) (oneP v43 (newP h44 (.cells ⟨[v43, .int .i64 0]⟩ 71 (0, 0)) fun b45 h46 =>
  N [p1_supply, .pointer (some (bk b1)), .pointer (some (bk b3)), .pointer (some (bk b5)), .pointer (some (bk b7)), .pointer (some (bk b9)), v43, .iface 69 (.pointer (some (bk b45)))] h46))
  (ldN h44 (bk b3) 3 fun x47 =>
  stN h44 (bk b3) x47 3 fun h48 =>
  stC h48 (bk b5) (.int .i64 0) fun h49 =>
  stC h49 (bk b7) (.slice none 0 0) fun h50 =>
  stC h50 (bk b9) (.int .i64 50) fun h51 =>
  ldN h51 (bk b3) 3 fun x52 =>
  ldI h51 (bk b5) .i64 fun x53 =>
  ldV h51 (bk b7) fun x54 =>
  ldI h51 (bk b9) .i64 fun x55 =>
  R (.ret (.tuple ⟨[.agg ⟨x52⟩, .int .i64 x53, x54, .int .i64 x55]⟩)) h51)))) (fun v56 h57 => R (.pan v56) h57)))) (fun v58 h59 => R (.pan v58) h59)))) (fun v60 h61 => R (.pan v60) h61))
noncomputable abbrev cSolve : Code := bodyOf Tryz.f10
noncomputable abbrev lSolve : List Code := [fstOf cSolve, fstOf (restOf cSolve), fstOf (restOf (restOf cSolve)), fstOf (restOf (restOf (restOf cSolve))), fstOf (restOf (restOf (restOf (restOf cSolve))))]
noncomputable abbrev xSolve : Code := fstOf (restOf (restOf (restOf (restOf (restOf cSolve)))))
noncomputable abbrev dSolve : Code := fstOf (restOf (restOf (restOf (restOf (restOf (restOf cSolve))))))
noncomputable abbrev ySolve : Code := restOf (restOf (restOf (restOf (restOf (restOf (restOf cSolve))))))
theorem ESolveA {p0_g : List Value} {p1_supply : Value} {p2_kind : Int} {N : List Value → H → Prop} {R : Res → H → Prop} {h : H} (H0 : BSolveA p0_g p1_supply p2_kind N R h) :
    cpt Tryz.prog 101 A_SolveA (appC lSolve xSolve) [(0, .agg ⟨p0_g⟩), (1, p1_supply), (2, .int .i64 p2_kind)] h (fun e fr h => match e with
      | .normal => slotsP fr [1, 3, 6, 7, 8, 9, 12, 13] fun vs => N vs h
      | .ret => resP Tryz.prog fr h Tryz.f10.results.toList fun v => R (.ret v) h
      | .panic v => R (.pan v) h
      | .exit _ => False) := cast_of (by kernel_rfl) H0
def A_SolveB : An := ⟨lkA [(18, rng 2), (19, ⟨[1, 3, 7, 8, 9, 4, 5, 10, 0, 2, 6, 11, 12], lkN [(2, [4, 10])]⟩), (20, rng 4), (21, rng 1), (22, rng 6), (23, ⟨[0, 2, 3, 4, 5, 7, 8, 9, 1, 6, 10, 11, 12, 13], lkN []⟩), (24, ⟨[1, 3, 5, 0, 2, 4, 6, 7, 8, 9, 10], lkN []⟩), (25, rng 2), (26, ⟨[0, 1, 2, 3, 4, 5], lkN [(2, [1])]⟩)], lkL [(21, [(70, .int .i64)])], lkC []⟩
def BSolveB (p1 : Value) (b3 b6 b7 b8 b9 : Nat) (v12 v13 : Value) (N : H → Prop) (X : Value → H → Prop) (h : H) : Prop :=
  methP Tryz.prog h v13 "compass/mincost.meet" fun f1 rv2 =>
  T Tryz.prog f1 (rv2 :: []) h (rt (fun v3 h4 =>
  v3 = .tuple ⟨[]⟩ ∧
  ptrP v12 fun a5 =>
  ldV h4 ((bk b3).add 1) fun x6 =>
  slcP x6 fun a7 l8 c9 =>
  ldV h4 (a5.add 6) fun x10 =>
  newP h4 (.cells ⟨[]⟩ 2 (0, 0)) fun b11 h12 =>
  apP (.slice (some (bk b11)) 0 0) p1 h12 1 2 8 [.int .i64 0] fun s13 h14 =>
  (sameAt 2 (a5.add 6) h12 h14) ∧
  (sameAt 2 ((bk b3).add 1) h12 h14) ∧
  mkS ((l8 : Nat) : Int) ((l8 : Nat) : Int) 8 [.int .i64 0] 2 h14 fun b15 h16 =>
  oneP s13 (oneP x10 (stN h16 (bk b6) [s13, .slice (some (bk b15)) (((l8 : Nat) : Int).toNat) (((l8 : Nat) : Int).toNat), x10] 3 fun h17 =>
  ldV h17 ((bk b3).add 1) fun x18 =>
  slcP x18 fun a19 l20 c21 =>
  ∃ (I22 : (Int × Unit) → H → Prop) (r23 : (Int × Unit) × H → (Int × Unit) × H → Prop), WellFounded r23 ∧ I22 (0, ()) h17 ∧
  ∀ (s25 : Int) (h24 : H), I22 (s25, ()) h24 →
  ifP (decide (s25 < ((l20 : Nat) : Int))) (ixS x18 s25 4 fun a26 =>
  ldN h24 a26 4 fun x27 =>
  newP h24 (.cells ⟨[.int .i64 0, .int .i64 0, .int .i64 0, .int .i64 0]⟩ 43 (0, 0)) fun b28 h29 =>
  stN h29 (bk b28) x27 4 fun h30 =>
  ptrP v12 fun a31 =>
  ldV h30 ((bk b6).add 1) fun x32 =>
  ldV h30 (a31.add 2) fun x33 =>
  ixS x33 (IntKind.i64.wrap ((IntKind.i64.wrap (2 * s25)) + 1)) 1 fun a34 =>
  ldI h30 a34 .i64 fun x35 =>
  ixS x32 s25 1 fun a36 =>
  stC h30 a36 (.int .i64 x35) fun h37 =>
  ldI h37 (bk b7) .i64 fun x38 =>
  ldI h37 ((bk b28).add 3) .i64 fun x39 =>
  ldV h37 ((bk b6).add 1) fun x40 =>
  ixS x40 s25 1 fun a41 =>
  ldI h37 a41 .i64 fun x42 =>
  stC h37 (bk b7) (.int .i64 (IntKind.i64.wrap (x38 + (IntKind.i64.wrap (x39 * x42))))) fun h43 =>
  I22 ((IntKind.i64.wrap (s25 + 1)), ()) h43 ∧ r23 (((IntKind.i64.wrap (s25 + 1)), ()), h43) ((s25, ()), h24))
  (ldN h24 (bk b6) 3 fun x44 =>
  ldI h24 (bk b7) .i64 fun x45 =>
  stN h24 (bk b6) x44 3 fun h46 =>
  (sameAt 2 (bk b7) h24 h46) ∧
  stC h46 (bk b7) (.int .i64 x45) fun h47 =>
  stC h47 (bk b8) (.slice none 0 0) fun h48 =>
  stC h48 (bk b9) (.int .i64 0) fun h49 =>
  N h49)))) (fun v50 h51 => X v50 h51))
theorem ESolveB {p1 : Value} {b3 b6 b7 b8 b9 : Nat} {v12 v13 vf : Value} {N : H → Prop} {X : Value → H → Prop} {h : H} (H0 : BSolveB p1 b3 b6 b7 b8 b9 v12 v13 N X h) :
    cpt Tryz.prog 101 A_SolveB ySolve [(52, vf), (1, p1), (3, .pointer (some (bk b3))), (6, .pointer (some (bk b6))), (7, .pointer (some (bk b7))), (8, .pointer (some (bk b8))), (9, .pointer (some (bk b9))), (12, v12), (13, v13)] h (fun e fr h => match e with
      | .normal => N h
      | .ret => N h
      | .panic v => X v h
      | .exit _ => False) := cast_of (by kernel_rfl) H0
def A_SolveC : An := ⟨lkA [(1, rng 1), (2, ⟨[0, 1, 2, 3, 4, 5, 6], lkN [(3, [2]), (4, [2])]⟩)], lkL [], lkC []⟩
def BSolveC (b6 b7 b8 b9 b4 : Nat) (v5 : Bool) (N : H → Prop) (h : H) : Prop :=
  ifP v5 (ldV h ((bk b4).add 0) fun x1 =>
  stN h (bk b6) [.slice none 0 0, .slice none 0 0, .slice none 0 0] 3 fun h2 =>
  (sameAt 2 ((bk b4).add 0) h h2) ∧
  stC h2 (bk b7) (.int .i64 0) fun h3 =>
  (sameAt 2 ((bk b4).add 0) h2 h3) ∧
  oneP x1 (stC h3 (bk b8) x1 fun h4 =>
  stC h4 (bk b9) (.int .i64 5) fun h5 =>
  N h5))
  (N h)
theorem ESolveC {b6 b7 b8 b9 b4 : Nat} {v5 : Bool} {v9 v8 v : Value} {N : H → Prop} {h : H} (H0 : BSolveC b6 b7 b8 b9 b4 v5 N h) :
    cpt Tryz.prog 15 A_SolveC (restOf (bodyOf Tryz.f22)) [(5, .bool v5), (4, .pointer (some (bk b4))), (10, .bool v5), (9, v9), (6, v8), (8, v8), (7, v), (0, .pointer (some (bk b6))), (1, .pointer (some (bk b7))), (2, .pointer (some (bk b8))), (3, .pointer (some (bk b9)))] h (fun e fr h => match e with
      | .normal => N h
      | .ret => N h
      | _ => False) := cast_of (by kernel_rfl) H0
/-- What is given up with. -/
abbrev gvL (sd : Value) : Value := .iface 73 (.agg ⟨[sd]⟩)
theorem ta_lack (sd : Value) (w : World) : (Instr.typeAssert (gvL sd) 20 73 true).run Tryz.prog w = .ok (.tuple ⟨[.agg ⟨[sd]⟩, .bool true]⟩) w := by kernel_rfl
theorem ta_lack0 (w : World) : (Instr.typeAssert .nilIface 20 73 true).run Tryz.prog w = .ok (.tuple ⟨[.agg ⟨[.slice none 0 0]⟩, .bool false]⟩) w := by kernel_rfl
theorem f27_seq : bodyOf Tryz.f22 = .seq (.region 0 (firstOps (bodyOf Tryz.f22)) false) (restOf (bodyOf Tryz.f22)) := by kernel_rfl
def B27 (v : Value) (h : H) (K : Fr → H → Prop) (b6 b7 b8 b9 : Nat) : Prop :=
  runP Tryz.prog h (Instr.typeAssert v 20 73 true) fun v8 => tupP v8 fun vs => on (vs[0]?) fun v9 => tupP v8 fun vs => on (vs[1]?) fun v10 =>
    newP h (.cells ⟨[.slice none 0 0]⟩ 73 (0, 0)) fun b1 h1 => aggP v9 fun ws => stN h1 (bk b1) ws 1 fun h2 => K [(5, v10), (4, .pointer (some (bk b1))), (10, v10), (9, v9), (6, v8), (8, v8), (7, v), (0, .pointer (some (bk b6))), (1, .pointer (some (bk b7))), (2, .pointer (some (bk b8))), (3, .pointer (some (bk b9)))] h2
theorem E27 {v : Value} {h : H} {K : Fr → H → Prop} {X : Value → H → Prop} {b6 b7 b8 b9 : Nat} (H0 : B27 v h K b6 b7 b8 b9) :
    rpt Tryz.prog (firstOps (bodyOf Tryz.f22)).toList (fun _ => []) [] [1, 2, 3, 4, 5, 6, 7] [(7, v), (0, .pointer (some (bk b6))), (1, .pointer (some (bk b7))), (2, .pointer (some (bk b8))), (3, .pointer (some (bk b9)))] h K X := cast_of (by kernel_rfl) H0
theorem cSolve_eq : cSolve = appC lSolve (.seq xSolve (.seq (.region 17 (firstOps (.seq dSolve .skip)) false) ySolve)) := by kernel_rfl

end Go.Proofs.YtjlojokockfapaaGreatDoor

namespace Go.Proofs.YtjlojokockfapaaGreatDoor
open Go
set_option linter.unusedVariables false
set_option linter.unusedSimpArgs false
set_option maxRecDepth 100000

/-- The results' blocks. -/
structure P4 (g : H) (b6 b7 b8 b9 : Nat) (pl : List Value) (co : Int) (sv : Value) (er : Int) : Prop where
  l : pl.length = 3
  k6 : Bl g b6 pl
  k7 : Bl g b7 [.int .i64 co]
  k8 : Bl g b8 [sv]
  k9 : Bl g b9 [.int .i64 er]
  ne : b6 ≠ b7 ∧ b6 ≠ b8 ∧ b6 ≠ b9 ∧ b7 ≠ b8 ∧ b7 ≠ b9 ∧ b8 ≠ b9
/-- All but the results' blocks is kept. -/
def K4 (b6 b7 b8 b9 : Nat) (g g2 : H) : Prop := ∀ c o, c ≠ b6 → c ≠ b7 → c ≠ b8 → c ≠ b9 → g c = some o → g2 c = some o
section
variable {g g' : H} {b6 b7 b8 b9 : Nat} {pl : List Value} {co er : Int} {sv : Value}
theorem P4.ext (P : P4 g b6 b7 b8 b9 pl co sv er) (x : Ext g g') : P4 g' b6 b7 b8 b9 pl co sv er := ⟨P.l, P.k6.ext x, P.k7.ext x, P.k8.ext x, P.k9.ext x, P.ne⟩
theorem Ext.k4 (x : Ext g g') : K4 b6 b7 b8 b9 g g' := fun c o _ _ _ _ h => x c o h
theorem K4.trans {g2 g3 : H} (a : K4 b6 b7 b8 b9 g g2) (b : K4 b6 b7 b8 b9 g2 g3) : K4 b6 b7 b8 b9 g g3 := fun c o h1 h2 h3 h4 h => b c o h1 h2 h3 h4 (a c o h1 h2 h3 h4 h)
theorem P4.s6 {pl' : List Value} {K : H → Prop} (P : P4 g b6 b7 b8 b9 pl co sv er) (hl : pl'.length = 3) (o1 : ∀ v ∈ pl', v.oneCell' = true) (k : ∀ g1, K4 b6 b7 b8 b9 g g1 → P4 g1 b6 b7 b8 b9 pl' co sv er → K g1) : stN g (bk b6) pl' 3 K :=
  P.k6.stN hl P.l o1 fun g1 kp B => k g1 (fun c o h1 _ _ _ h => kp c o h1 h) ⟨hl, B, P.k7.kp kp P.ne.1.symm, P.k8.kp kp P.ne.2.1.symm, P.k9.kp kp P.ne.2.2.1.symm, P.ne⟩
theorem P4.s7 {co' : Int} {K : H → Prop} (P : P4 g b6 b7 b8 b9 pl co sv er) (k : ∀ g1, K4 b6 b7 b8 b9 g g1 → P4 g1 b6 b7 b8 b9 pl co' sv er → K g1) : stC g (bk b7) (.int .i64 co') K := by
  have := P.k7.stC (i := 0) (x := .int .i64 co') (K := K) (by simp) fun g1 kp B => k g1 (fun c o _ h1 _ _ h => kp c o h1 h) ⟨P.l, P.k6.kp kp P.ne.1, B, P.k8.kp kp P.ne.2.2.2.1.symm, P.k9.kp kp P.ne.2.2.2.2.1.symm, P.ne⟩
  rwa [add_zero'] at this
theorem P4.s8 {sv' : Value} {K : H → Prop} (P : P4 g b6 b7 b8 b9 pl co sv er) (k : ∀ g1, K4 b6 b7 b8 b9 g g1 → P4 g1 b6 b7 b8 b9 pl co sv' er → K g1) : stC g (bk b8) sv' K := by
  have := P.k8.stC (i := 0) (x := sv') (K := K) (by simp) fun g1 kp B => k g1 (fun c o _ _ h1 _ h => kp c o h1 h) ⟨P.l, P.k6.kp kp P.ne.2.1, P.k7.kp kp P.ne.2.2.2.1, B, P.k9.kp kp P.ne.2.2.2.2.2.symm, P.ne⟩
  rwa [add_zero'] at this
theorem P4.s9 {er' : Int} {K : H → Prop} (P : P4 g b6 b7 b8 b9 pl co sv er) (k : ∀ g1, K4 b6 b7 b8 b9 g g1 → P4 g1 b6 b7 b8 b9 pl co sv er' → K g1) : stC g (bk b9) (.int .i64 er') K := by
  have := P.k9.stC (i := 0) (x := .int .i64 er') (K := K) (by simp) fun g1 kp B => k g1 (fun c o _ _ _ h1 h => kp c o h1 h) ⟨P.l, P.k6.kp kp P.ne.2.2.1, P.k7.kp kp P.ne.2.2.2.2.1, P.k8.kp kp P.ne.2.2.2.2.2, B, P.ne⟩
  rwa [add_zero'] at this
theorem Bl.ldI0 {b : Nat} {x : Int} {K : Int → Prop} (B : Bl g b [.int .i64 x]) (k : K x) : ldI g (bk b) .i64 K := ⟨x, by have := B.ld (i := 0) rfl; rwa [add_zero'] at this, k⟩
theorem Bl.ldV0 {b : Nat} {x : Value} {K : Value → Prop} (B : Bl g b [x]) (k : K x) : ldV g (bk b) K := ⟨x, by have := B.ld (i := 0) rfl; rwa [add_zero'] at this, k⟩
/-- The results are read. -/
theorem P4.read {K : List Value → Int → Value → Int → Prop} (P : P4 g b6 b7 b8 b9 pl co sv er) (k : K pl co sv er) : ldN g (bk b6) 3 fun x1 => ldI g (bk b7) .i64 fun x2 => ldV g (bk b8) fun x3 => ldI g (bk b9) .i64 fun x4 => K x1 x2 x3 x4 :=
  P.k6.ldN P.l (P.k7.ldI0 (P.k8.ldV0 (P.k9.ldI0 k)))
end
abbrev plZ : List Value := [.slice none 0 0, .slice none 0 0, .slice none 0 0]
theorem plZ_one : ∀ v ∈ plZ, v.oneCell' = true := by simp [Value.oneCell']

/-- The closure, called while u is under way. -/
theorem f27_D {h : H} {w : World} {b6 b7 b8 b9 : Nat} {pl pl' : List Value} {co co' er er' : Int} {sv sv' : Value} {u u' : FrameMode} {v : Value} (hP : P4 h b6 b7 b8 b9 pl co sv er) (hs : Sub h w)
    (hrec : ∀ (c₀ : Frame) (cs : List Frame), c₀.mode = u → recoverD (c₀ :: cs) = some (v, { c₀ with mode := u' } :: cs) ∨ (recoverD (c₀ :: cs) = none ∧ v = .nilIface ∧ u' = u))
    (hv : (v = gvL sv' ∧ (∃ a l c, sv' = .slice a l c) ∧ pl' = plZ ∧ co' = 0 ∧ er' = 5) ∨ (v = .nilIface ∧ pl' = pl ∧ co' = co ∧ sv' = sv ∧ er' = er)) :
    CallsD Tryz.prog 22 #[.pointer (some (bk b6)), .pointer (some (bk b7)), .pointer (some (bk b8)), .pointer (some (bk b9))] u w fun e q w' => e = .returned (.tuple ⟨[]⟩) ∧ q = u' ∧ ∃ h', Sub h' w' ∧ Stp h w h' w' ∧ K4 b6 b7 b8 b9 h h' ∧ P4 h' b6 b7 b8 b9 pl' co' sv' er' := by
  refine callsD_of_wpS Tryz.func22 (c := bodyOf Tryz.f22) (by kernel_rfl) fun c₀ cs hu => ?_
  have hr := hrec c₀ cs hu
  obtain ⟨cs', hcs, hrec'⟩ : ∃ cs', cs' = { c₀ with mode := u' } :: cs ∧ (recoverD (c₀ :: cs) = some (v, cs') ∨ (recoverD (c₀ :: cs) = none ∧ v = .nilIface ∧ cs' = c₀ :: cs)) := by
    rcases hr with h | ⟨h1, h2, h3⟩
    · exact ⟨_, rfl, .inl h⟩
    · refine ⟨_, rfl, .inr ⟨h1, h2, ?_⟩⟩
      subst h3; subst hu; rfl
  rw [f27_seq]
  refine wpS_seq ?_
  refine wpS_region_recover (o := opAt (firstOps (bodyOf Tryz.f22)) 0) (rest := [1, 2, 3, 4, 5, 6, 7]) (v := v) (cs' := cs') (by kernel_rfl) (by kernel_rfl) (by kernel_rfl) (by kernel_rfl) hrec' ?_
  let ar : Array Value := #[.pointer (some (bk b6)), .pointer (some (bk b7)), .pointer (some (bk b8)), .pointer (some (bk b9))]
  let a1 : Act := Act.put { tmps := ar ++ Array.replicate (Tryz.f22.ntmps - ar.size) undef, defers := [] } (some 7) v
  have ea : Act.put { tmps := ar ++ Array.replicate (Tryz.f22.ntmps - ar.size) undef, defers := [] } (opAt (firstOps (bodyOf Tryz.f22)) 0).dst v = a1 := by kernel_rfl
  show wpOps _ _ _ _ (Act.put { tmps := ar ++ Array.replicate (Tryz.f22.ntmps - ar.size) undef, defers := [] } (opAt (firstOps (bodyOf Tryz.f22)) 0).dst v) w
  rw [ea]
  have h7 : a1.tmps[7]? = some v := by kernel_rfl
  have h0 : a1.tmps[0]? = some (.pointer (some (bk b6))) := by kernel_rfl
  have h1 : a1.tmps[1]? = some (.pointer (some (bk b7))) := by kernel_rfl
  have h2 : a1.tmps[2]? = some (.pointer (some (bk b8))) := by kernel_rfl
  have h3 : a1.tmps[3]? = some (.pointer (some (bk b9))) := by kernel_rfl
  have rel : Rel 15 [] h w (List.range 15) a1 [(7, v), (0, .pointer (some (bk b6))), (1, .pointer (some (bk b7))), (2, .pointer (some (bk b8))), (3, .pointer (some (bk b9)))] h a1 w :=
    ⟨((((((FrOK.nil a1).cons h3).cons h2).cons h1).cons h0).cons h7), hs, Stp.refl h w, by kernel_rfl, by kernel_rfl, fun _ _ => rfl⟩
  obtain ⟨bl, z, hrpt, hz⟩ : ∃ (bl : Bool) (z : Value), (rpt Tryz.prog (firstOps (bodyOf Tryz.f22)).toList (fun _ => []) [] [1, 2, 3, 4, 5, 6, 7] [(7, v), (0, .pointer (some (bk b6))), (1, .pointer (some (bk b7))), (2, .pointer (some (bk b8))), (3, .pointer (some (bk b9)))] h
      (fun f g => ∃ b1 v8 v9, Fr.le [(5, .bool bl), (4, .pointer (some (bk b1))), (10, .bool bl), (9, v9), (6, v8), (8, v8), (7, v), (0, .pointer (some (bk b6))), (1, .pointer (some (bk b7))), (2, .pointer (some (bk b8))), (3, .pointer (some (bk b9)))] f ∧ Ext h g ∧ h b1 = none ∧ Bl g b1 [z]) (fun _ _ => False)) ∧
      ((bl = true ∧ z = sv' ∧ (∃ a l c, sv' = .slice a l c) ∧ pl' = plZ ∧ co' = 0 ∧ er' = 5) ∨ (bl = false ∧ pl' = pl ∧ co' = co ∧ sv' = sv ∧ er' = er)) := by
    rcases hv with ⟨rfl, hsl, e⟩ | ⟨rfl, e⟩
    · refine ⟨true, sv', E27 ⟨_, fun w _ => ta_lack sv' w, ?_⟩, .inl ⟨rfl, rfl, hsl, e⟩⟩
      refine new_bl_st rfl rfl (by obtain ⟨_, _, _, rfl⟩ := hsl; simp [Value.oneCell']) ?_
      intro b1 g hb1 x1 B1_
      exact ⟨b1, _, _, Fr.le.refl _, x1, hb1, B1_⟩
    · refine ⟨false, .slice none 0 0, E27 ⟨_, fun w _ => ta_lack0 w, ?_⟩, .inr ⟨rfl, e⟩⟩
      refine new_bl_st rfl rfl (by simp [Value.oneCell']) ?_
      intro b1 g hb1 x1 B1_
      exact ⟨b1, _, _, Fr.le.refl _, x1, hb1, B1_⟩
  have hasr : ∀ d, d < 15 → has d (List.range 15) = true := fun d hd => has_iff.2 (List.mem_range.2 hd)
  have hds : dstsOK 15 (firstOps (bodyOf Tryz.f22)).toList = true := by kernel_rfl
  refine list_sound (n := 15) (ds := []) (h0 := h) (w0 := w) (W := List.range 15) (a0 := a1) ?_ (fun o ho d hd => ⟨dstsOK_spec hds o ho d hd, hasr d (dstsOK_spec hds o ho d hd)⟩) (fun _ _ _ _ h _ => h.elim) ?_ _ _ _ _ _ _ hrpt rel
  · rintro f f' h _ hl ⟨b1, v5, v6, h1, h2, h3, h4⟩
    exact ⟨b1, v5, v6, h1.trans hl, h2, h3, h4⟩
  rintro f g a2 w2 ⟨b1, v8, v9, hle, x2, hnone, Bz⟩ rel2
  show (restOf (bodyOf Tryz.f22)).wpS Tryz.prog _ a2 cs' w2
  refine wpS_of_wp ?_
  have rel2 := rel2.le hle
  have P2 := hP.ext x2
  have ne6 : b1 ≠ b6 := (hP.k6.ne hnone).symm
  have ne7 : b1 ≠ b7 := (hP.k7.ne hnone).symm
  have ne8 : b1 ≠ b8 := (hP.k8.ne hnone).symm
  have ne9 : b1 ≠ b9 := (hP.k9.ne hnone).symm
  refine cpt_sound (n := 15) _ _ g _ (ESolveC (N := fun g3 => K4 b6 b7 b8 b9 h g3 ∧ P4 g3 b6 b7 b8 b9 pl' co' sv' er') ?_) [] h w (List.range 15) a1 a2 w2 _ (fun t ht => hasr t ?_) rel2 ?_
  · refine ifP_of (fun hb => ?_) (fun hb => ?_)
    · rcases hz with ⟨_, rfl, hsl, rfl, rfl, rfl⟩ | ⟨h, _⟩
      · refine ⟨_, by have := Bz.ld (i := 0) rfl; exact this, ?_⟩
        have keepB : ∀ {g1 g2 : H}, Bl g1 b1 [z] → K4 b6 b7 b8 b9 g1 g2 → Bl g2 b1 [z] := fun B k => by
          obtain ⟨e, hb⟩ := B
          exact ⟨e, k _ _ ne6 ne7 ne8 ne9 hb⟩
        refine P2.s6 rfl plZ_one fun g1 q1 P3 => ?_
        have Bz1 := keepB Bz q1
        refine ⟨sameAt_bl Bz Bz1, P3.s7 fun g2 q2 P3 => ?_⟩
        have Bz2 := keepB Bz1 q2
        refine ⟨sameAt_bl Bz1 Bz2, oneP_slc hsl (P3.s8 fun g3 q3 P3 => P3.s9 fun g4 q4 P3 => ?_)⟩
        exact ⟨(((x2.k4.trans q1).trans q2).trans q3).trans q4, P3⟩
      · rw [h] at hb; cases hb
    · rcases hz with ⟨h, _⟩ | ⟨_, rfl, rfl, rfl, rfl⟩
      · rw [h] at hb; cases hb
      · exact ⟨x2.k4, P2⟩
  · have : ((writesOf (restOf (bodyOf Tryz.f22))).all fun t => Nat.blt t 15) = true := by kernel_rfl
    have := List.all_eq_true.1 this t ht
    simpa [Nat.blt_eq] using this
  · rintro e fr g3 a3 w3 hq rel3
    cases e with
    | normal =>
      obtain ⟨k4, P5⟩ := hq
      exact ⟨rel3.defers, u', by rw [hcs], .tuple #[], results_none rfl _ _ _, rfl, rfl, g3, rel3.sub, rel3.same, k4, P5⟩
    | ret =>
      obtain ⟨k4, P5⟩ := hq
      exact ⟨rel3.defers, u', by rw [hcs], .tuple #[], results_none rfl _ _ _, rfl, rfl, g3, rel3.sub, rel3.same, k4, P5⟩
    | exit i => exact hq.elim
    | panic v => exact hq.elim

end Go.Proofs.YtjlojokockfapaaGreatDoor

namespace Go.Proofs.YtjlojokockfapaaGreatDoor
open Go
set_option linter.unusedVariables false
set_option linter.unusedSimpArgs false
set_option maxRecDepth 100000

def SolveN (R : Res → H → Prop) (b6 b7 b8 b9 : Nat) (g1 : H) : Prop :=
  ∃ pl co sv er, P4 g1 b6 b7 b8 b9 pl co sv er ∧ ∀ g2, K4 b6 b7 b8 b9 g1 g2 → P4 g2 b6 b7 b8 b9 pl co sv er → R (.ret (.tuple ⟨[.agg ⟨pl⟩, .int .i64 co, sv, .int .i64 er]⟩)) g2
def SolveX (R : Res → H → Prop) (b6 b7 b8 b9 : Nat) (v : Value) (g1 : H) : Prop :=
  ∃ pl co sv er sd, v = gvL sd ∧ (∃ a l c, sd = .slice a l c) ∧ P4 g1 b6 b7 b8 b9 pl co sv er ∧ ∀ g2, K4 b6 b7 b8 b9 g1 g2 → P4 g2 b6 b7 b8 b9 plZ 0 sd 5 → R (.ret (.tuple ⟨[.agg ⟨plZ⟩, .int .i64 0, sd, .int .i64 5]⟩)) g2
def SolveM (p1 : Value) (R : Res → H → Prop) (vs : List Value) (g : H) : Prop :=
  ∃ (b3 b6 b7 b8 b9 : Nat) (v12 v13 : Value), vs = [p1, .pointer (some (bk b3)), .pointer (some (bk b6)), .pointer (some (bk b7)), .pointer (some (bk b8)), .pointer (some (bk b9)), v12, v13] ∧
    BSolveB p1 b3 b6 b7 b8 b9 v12 v13 (SolveN R b6 b7 b8 b9) (SolveX R b6 b7 b8 b9) g

theorem Solve_of {p0 : List Value} {p1 : Value} {p2 : Int} {h : H} {R : Res → H → Prop} (HA : BSolveA p0 p1 p2 (SolveM p1 R) R h) : T Tryz.prog F.mincost_Solve [.agg ⟨p0⟩, p1, .int .i64 p2] h R := by
  refine ⟨⟨Tryz.f10, Tryz.func10, by kernel_rfl, by kernel_rfl⟩, fun w hw => ?_⟩
  refine calls_of_wp_defers Tryz.func10 (c := cSolve) (by kernel_rfl) ?_
  rw [cSolve_eq]
  have hasr : ∀ d, d < 101 → has d (List.range 101) = true := fun d hd => has_iff.2 (List.mem_range.2 hd)
  let ar : Array Value := #[.agg ⟨p0⟩, p1, .int .i64 p2]
  obtain ⟨a0, ha0⟩ : ∃ a0 : Act, a0 = { tmps := ar ++ Array.replicate (Tryz.f10.ntmps - ar.size) undef, defers := [] } := ⟨_, rfl⟩
  have t0 : a0.tmps[0]? = some (.agg ⟨p0⟩) := by rw [ha0]; kernel_rfl
  have t1 : a0.tmps[1]? = some p1 := by rw [ha0]; kernel_rfl
  have t2 : a0.tmps[2]? = some (.int .i64 p2) := by rw [ha0]; kernel_rfl
  have hsz : a0.tmps.size = 101 := by rw [ha0]; kernel_rfl
  have hdf : a0.defers = [] := by rw [ha0]
  have goalA : (appC lSolve (.seq xSolve (.seq (.region 17 (firstOps (.seq dSolve .skip)) false) ySolve))).wp Tryz.prog
      (bodyPostD Tryz.prog Tryz.f10 fun e w' => ∃ h', Sub h' w' ∧ Stp h w h' w' ∧ match e with
        | .returned v => R (.ret v) h'
        | .panicked [⟨v, false, false⟩] => R (.pan v) h'
        | _ => False) a0 w := by
    refine appC_sound (n := 101) (A := A_SolveA) (fun _ => rfl) (ds := []) (h0 := h) (w0 := w) (W := List.range 101) (a0 := a0) (Q0 := _) ?_ lSolve [(0, .agg ⟨p0⟩), (1, p1), (2, .int .i64 p2)] h a0 w (ESolveA HA) (fun t ht => hasr t ?_) ⟨((((FrOK.nil a0).cons t2).cons t1).cons t0), hw, Stp.refl h w, hsz, hdf, fun _ _ => rfl⟩
    rotate_left
    · have : ((writesOf (appC lSolve xSolve)).all fun t => Nat.blt t 101) = true := by kernel_rfl
      have := List.all_eq_true.1 this t ht
      simpa [Nat.blt_eq] using this
    intro e fr g a1 w1 hq rel1
    cases e with
    | exit i => exact hq.elim
    | panic v =>
      show Leaves _ _ _ _ a1.defers (.panicking [⟨v, false, false⟩]) w1
      rw [rel1.defers]
      exact ⟨g, rel1.sub, rel1.same, hq⟩
    | ret =>
      show Leaves _ _ _ _ a1.defers .returning w1
      rw [rel1.defers]
      obtain ⟨v, hv, hr⟩ := resP_run (fn := Tryz.f10) rel1.fr hq
      exact ⟨_, hr w1 rel1.sub, g, rel1.sub, rel1.same, hv⟩
    | normal =>
      show (Code.seq (.region 17 (firstOps (.seq dSolve .skip)) false) ySolve).wp Tryz.prog _ a1 w1
      obtain ⟨v1, g1, hq⟩ := on_some hq
      obtain ⟨v3, g3, hq⟩ := on_some hq
      obtain ⟨v6, g6, hq⟩ := on_some hq
      obtain ⟨v7, g7, hq⟩ := on_some hq
      obtain ⟨v8, g8, hq⟩ := on_some hq
      obtain ⟨v9, g9, hq⟩ := on_some hq
      obtain ⟨v12, g12, hq⟩ := on_some hq
      obtain ⟨v13, g13, hq⟩ := on_some hq
      obtain ⟨b3, b6, b7, b8, b9, u12, u13, hvs, HB⟩ := hq
      simp only [List.cons.injEq, and_true] at hvs
      obtain ⟨rfl, rfl, rfl, rfl, rfl, rfl, rfl, rfl⟩ := hvs
      have f1 := rel1.fr _ _ g1
      have f3 := rel1.fr _ _ g3
      have f6 := rel1.fr _ _ g6
      have f7 := rel1.fr _ _ g7
      have f8 := rel1.fr _ _ g8
      have f9 := rel1.fr _ _ g9
      have f12 := rel1.fr _ _ g12
      have f13 := rel1.fr _ _ g13
      have frA : FrOK [(1, v1), (3, .pointer (some (bk b3))), (6, .pointer (some (bk b6))), (7, .pointer (some (bk b7))), (8, .pointer (some (bk b8))), (9, .pointer (some (bk b9))), (12, v12), (13, v13)] a1 :=
        (((((((((FrOK.nil a1).cons f13).cons f12).cons f9).cons f8).cons f7).cons f6).cons f3).cons f1)
      refine wp_seq (wp_region ?_)
      have hr : List.range (firstOps (.seq dSolve .skip)).size = [0, 1] := by kernel_rfl
      rw [hr]
      refine wp_first (o := opAt (firstOps (.seq dSolve .skip)) 0) (by kernel_rfl) (by kernel_rfl) ?_
      let fv : Value := .func (.func 22) #[] #[.pointer (some (bk b6)), .pointer (some (bk b7)), .pointer (some (bk b8)), .pointer (some (bk b9))]
      have ho : opt Tryz.prog (opAt (firstOps (.seq dSolve .skip)) 0) [(1, v1), (3, .pointer (some (bk b3))), (6, .pointer (some (bk b6))), (7, .pointer (some (bk b7))), (8, .pointer (some (bk b8))), (9, .pointer (some (bk b9))), (12, v12), (13, v13)] g
          (fun v g' => v = fv ∧ g' = g) (fun _ _ => False) :=
        cast_of (A := opt Tryz.prog (opAt (firstOps (.seq dSolve .skip)) 0) [(1, v1), (3, .pointer (some (bk b3))), (6, .pointer (some (bk b6))), (7, .pointer (some (bk b7))), (8, .pointer (some (bk b8))), (9, .pointer (some (bk b9))), (12, v12), (13, v13)] g
          (fun v g' => v = fv ∧ g' = g) (fun _ _ => False))
          (B := (Value.func (.func 22) ⟨[]⟩ ⟨[.pointer (some (bk b6)), .pointer (some (bk b7)), .pointer (some (bk b8)), .pointer (some (bk b9))]⟩ = fv ∧ g = g)) (by kernel_rfl) ⟨rfl, rfl⟩
      refine opt_sound ho frA rel1.sub ?_ (fun _ _ _ h => h.elim)
      rintro vx _ w2 ⟨rfl, rfl⟩ hs2 hst2
      generalize ha2 : a1.put (opAt (firstOps (.seq dSolve .skip)) 0).dst fv = a2
      have hd3 : (opAt (firstOps (.seq dSolve .skip)) 0).dst = some 52 := by kernel_rfl
      have fr2 : FrOK [(52, fv), (1, v1), (3, .pointer (some (bk b3))), (6, .pointer (some (bk b6))), (7, .pointer (some (bk b7))), (8, .pointer (some (bk b8))), (9, .pointer (some (bk b9))), (12, v12), (13, v13)] a2 := by
        rw [← ha2, hd3]
        exact frA.put (d := some 52) (fun t ht => by cases ht; rw [rel1.size]; omega) _
      have sz2 : a2.tmps.size = 101 := by rw [← ha2, size_put, rel1.size]
      have df2 : a2.defers = [] := by rw [← ha2, defers_put, rel1.defers]
      refine wp_first (o := opAt (firstOps (.seq dSolve .skip)) 1) (by kernel_rfl) (by kernel_rfl) ?_
      have h52 : a2.eval (.tmp 52) = fv := by
        have := fr2 52 _ rfl
        simp [Act.eval, this]
      let df : Deferred := { target := .fn (.func 22) #[.pointer (some (bk b6)), .pointer (some (bk b7)), .pointer (some (bk b8)), .pointer (some (bk b9))], args := #[] }
      have hrun : (execOp a2.eval (opAt (firstOps (.seq dSolve .skip)) 1)).run Tryz.prog w2 = .ok (.defer df) w2 := by
        have hop : (opAt (firstOps (.seq dSolve .skip)) 1).op = .defer { callee := .value (.tmp 52), args := #[], argTypes := #[] } := by kernel_rfl
        simp [execOp, hop, resolve, Deferred.ofValue, h52, fv, df]
      unfold Oper.wp
      rw [hrun, Oper.upon_defer]
      have hd1 : (opAt (firstOps (.seq dSolve .skip)) 1).dst = none := by kernel_rfl
      rw [hd1]
      generalize ha3 : (Act.put { a2 with defers := df :: a2.defers } none undef) = a3
      have tm3 : a3.tmps = a2.tmps := by rw [← ha3]; rfl
      have df3 : a3.defers = [df] := by rw [← ha3, defers_put, df2]
      have fr3 : FrOK [(52, fv), (1, v1), (3, .pointer (some (bk b3))), (6, .pointer (some (bk b6))), (7, .pointer (some (bk b7))), (8, .pointer (some (bk b8))), (9, .pointer (some (bk b9))), (12, v12), (13, v13)] a3 := fun t v hv => by rw [tm3]; exact fr2 t v hv
      show ySolve.wp Tryz.prog _ a3 w2
      refine cpt_sound (n := 101) _ _ _ _ (ESolveB HB) [df] h w (writesOf ySolve) a3 a3 w2 _ (fun t ht => has_iff.2 ht)
        ⟨fr3, hs2, rel1.same.trans hst2, by rw [tm3]; exact sz2, df3, fun _ _ => rfl⟩ ?_
      intro e fr' g' a4 w4 hq rel4
      have c6 : a4.tmps[6]? = some (.pointer (some (bk b6))) := by rw [rel4.keep 6 (by kernel_rfl)]; exact fr3 6 _ rfl
      have c7 : a4.tmps[7]? = some (.pointer (some (bk b7))) := by rw [rel4.keep 7 (by kernel_rfl)]; exact fr3 7 _ rfl
      have c8 : a4.tmps[8]? = some (.pointer (some (bk b8))) := by rw [rel4.keep 8 (by kernel_rfl)]; exact fr3 8 _ rfl
      have c9 : a4.tmps[9]? = some (.pointer (some (bk b9))) := by rw [rel4.keep 9 (by kernel_rfl)]; exact fr3 9 _ rfl
      have fin : ∀ (h5 : H) (w5 : World) (pl : List Value) (co : Int) (sv : Value) (er : Int), Sub h5 w5 → Stp g' w4 h5 w5 → P4 h5 b6 b7 b8 b9 pl co sv er → R (.ret (.tuple ⟨[.agg ⟨pl⟩, .int .i64 co, sv, .int .i64 er]⟩)) h5 →
          Leaves Tryz.prog Tryz.f10 a4.tmps (fun e w' => ∃ h', Sub h' w' ∧ Stp h w h' w' ∧ match e with
            | .returned v => R (.ret v) h'
            | .panicked [⟨v, false, false⟩] => R (.pan v) h'
            | _ => False) [] .returning w5 := by
        intro h5 w5 pl co sv er s5 st5 P5 hR
        have hres : resP Tryz.prog [(6, .pointer (some (bk b6))), (7, .pointer (some (bk b7))), (8, .pointer (some (bk b8))), (9, .pointer (some (bk b9)))] h5 Tryz.f10.results.toList (fun v => v = .tuple ⟨[.agg ⟨pl⟩, .int .i64 co, sv, .int .i64 er]⟩) :=
          cast_of (A := resP Tryz.prog [(6, .pointer (some (bk b6))), (7, .pointer (some (bk b7))), (8, .pointer (some (bk b8))), (9, .pointer (some (bk b9)))] h5 Tryz.f10.results.toList (fun v => v = .tuple ⟨[.agg ⟨pl⟩, .int .i64 co, sv, .int .i64 er]⟩))
            (B := ldN h5 (bk b6) 3 fun x1 => ldI h5 (bk b7) .i64 fun x2 => ldV h5 (bk b8) fun x3 => ldI h5 (bk b9) .i64 fun x4 => Value.tuple ⟨[.agg ⟨x1⟩, .int .i64 x2, x3, .int .i64 x4]⟩ = .tuple ⟨[.agg ⟨pl⟩, .int .i64 co, sv, .int .i64 er]⟩) (by kernel_rfl) (P5.read rfl)
        obtain ⟨v, rfl, hr⟩ := resP_run (fn := Tryz.f10) (a := a4) (((((FrOK.nil a4).cons c9).cons c8).cons c7).cons c6) hres
        exact ⟨_, hr w5 s5, h5, s5, rel4.same.trans st5, hR⟩
      have okR : SolveN R b6 b7 b8 b9 g' → Leaves Tryz.prog Tryz.f10 a4.tmps (fun e w' => ∃ h', Sub h' w' ∧ Stp h w h' w' ∧ match e with
            | .returned v => R (.ret v) h'
            | .panicked [⟨v, false, false⟩] => R (.pan v) h'
            | _ => False) a4.defers .returning w4 := by
        rintro ⟨pl, co, sv, er, P, hR⟩
        rw [rel4.defers]
        refine leaves_cons (f := 22) (args := #[.pointer (some (bk b6)), .pointer (some (bk b7)), .pointer (some (bk b8)), .pointer (some (bk b9))]) (by simp) (by kernel_rfl) ?_
        refine (f27_D (u := .returning) (u' := .returning) (v := .nilIface) P rel4.sub (fun c₀ cs hu => .inr ⟨by simp [recoverD, hu], rfl, rfl⟩) (.inr ⟨rfl, rfl, rfl, rfl, rfl⟩)).mono ?_
        rintro e q w5 ⟨rfl, rfl, h5, s5, st5, k5, P5⟩
        exact fin h5 w5 pl co sv er s5 st5 P5 (hR h5 k5 P5)
      cases e with
      | exit i => exact hq.elim
      | normal => exact okR hq
      | ret => exact okR hq
      | panic v =>
        show Leaves _ _ _ _ a4.defers (.panicking [⟨v, false, false⟩]) w4
        rw [rel4.defers]
        obtain ⟨pl, co, sv, er, sd, rfl, hsl, P, hR⟩ := hq
        refine leaves_cons (f := 22) (args := #[.pointer (some (bk b6)), .pointer (some (bk b7)), .pointer (some (bk b8)), .pointer (some (bk b9))]) (by simp) (by kernel_rfl) ?_
        refine (f27_D (u := .panicking [⟨gvL sd, false, false⟩]) (u' := .panicking [⟨gvL sd, true, false⟩]) (v := gvL sd) P rel4.sub (fun c₀ cs hu => .inl (by simp [recoverD, hu])) (.inl ⟨rfl, hsl, rfl, rfl, rfl⟩)).mono ?_
        rintro e q w5 ⟨rfl, rfl, h5, s5, st5, k5, P5⟩
        have hset : settle (.panicking [⟨gvL sd, true, false⟩]) = .returning := by simp [settle]
        show Leaves _ _ _ _ [] (settle (.panicking [⟨gvL sd, true, false⟩])) w5
        rw [hset]
        exact fin h5 w5 plZ 0 sd 5 s5 st5 P5 (hR h5 k5 P5)
  rw [ha0] at goalA
  exact goalA

end Go.Proofs.YtjlojokockfapaaGreatDoor

namespace Go.Proofs.YtjlojokockfapaaGreatDoor
open Go
set_option linter.unusedVariables false
set_option linter.unusedSimpArgs false

instance {n : Int} {l : Nat} {bf : Nat → Int} : Decidable (supOK n l bf) := by unfold supOK; infer_instance
/-- The error's number of a task. -/
def wrong14 (n : Int) (m : Nat) (es : Nat → Ed) (l : Nat) (bf : Nat → Int) (k : Int) : Int :=
  if (faultG n m es).1 = 0 then (if supOK n l bf then (if 1 ≤ k ∧ k ≤ 3 then 0 else 50) else 130) else (faultG n m es).1
/-- A plan as Go holds it. -/
abbrev plV (sup on pot : Value) : List Value := [sup, on, pot]
/-- What Solve answers where nothing is wrong. -/
structure PlanR (own : Own) (h' : H) (n m : Nat) (es : Nat → Ed) (bf : Nat → Int) (vs von vp : Value) (f p : Nat → Int) : Prop where
  s : S1 own h' 24 vs (ints n bf)
  o : S1 own h' 23 von (ints m f)
  po : S1 own h' 7 vp (ints n p)
  pl : PlanP n m (frE es) (toE es) (cpE es) bf f
  pt : PotP m (frE es) (toE es) (cpE es) (ckE es) f p
  pb : ∀ v, v < n → -1073741824 ≤ p v ∧ p v ≤ 1073741824
def SolC (h : H) (n : Int) (m : Nat) (es : Nat → Ed) (l : Nat) (bf : Nat → Int) (k : Int) (r : Res) (h' : H) : Prop :=
  Ext h h' ∧ ((wrong14 n m es l bf k ≠ 0 ∧ r = .ret (.tuple ⟨[.agg ⟨plZ⟩, .int .i64 0, .slice none 0 0, .int .i64 (wrong14 n m es l bf k)]⟩)) ∨
    (wrong14 n m es l bf k = 0 ∧ n = l ∧ Gd l m es ∧
      ((∃ (own : Own) (vs von vp : Value) (f p : Nat → Int), r = .ret (.tuple ⟨[.agg ⟨plV vs von vp⟩, .int .i64 (totC m (ckE es) f), .slice none 0 0, .int .i64 0]⟩) ∧ Bs h own h' ∧ PlanR own h' l m es bf vs von vp f p) ∨
       (∃ (bs : Nat) (sd : Nat → Bool), r = .ret (.tuple ⟨[.agg ⟨plZ⟩, .int .i64 0, slV bs l, .int .i64 5]⟩) ∧ h bs = none ∧ Sl h' bs (slV bs l) (bools l sd) ∧
         cutC m (frE es) (toE es) (cpE es) (fun v => sd v = true) < sumN l fun v => if sd v = true then bf v else 0))))

theorem meth70 (v : Value) (w : World) : (method (Tryz.prog.types.size + Made.depth) 67 (.agg ⟨[v]⟩) "compass/mincost.meet").run Tryz.prog w = .ok (F.mincost_ways_meet, .agg ⟨[v]⟩) w := by kernel_rfl
theorem meth71 (v : Value) (w : World) : (method (Tryz.prog.types.size + Made.depth) 68 (.agg ⟨[v]⟩) "compass/mincost.meet").run Tryz.prog w = .ok (F.mincost_circles_meet, .agg ⟨[v]⟩) w := by kernel_rfl
theorem meth72 (a : Addr) (w : World) : (method (Tryz.prog.types.size + Made.depth) 69 (.pointer (some a)) "compass/mincost.meet").run Tryz.prog w = .ok (F.mincost_scaling_meet, .pointer (some a)) w := by kernel_rfl

section
variable {own own' : Own} {g g' h h' : H} {i b : Nat} {v : Value} {vs : List Value}
/-- The owners of new blocks besides those of old ones. -/
def mgO (g : H) (own own' : Own) : Own := fun c => match g c with
  | none => own' c
  | some _ => own c
theorem mgO_new {c : Nat} (h : g c = none) : mgO g own own' c = own' c := by unfold mgO; rw [h]
theorem mgO_old {c : Nat} {o : Obj} (h : g c = some o) : mgO g own own' c = own c := by unfold mgO; rw [h]
theorem Bs.mg {M : List Nat} (bs : Bs g own' g') : Fm M own g (mgO g own own') g' := ⟨fun c o e _ => bs.ext c o e, fun c o e => ⟨⟨o, bs.ext c o e⟩, mgO_old e⟩⟩
theorem Bs.new_ (bs : Bs g own' g') {c : Nat} (h : own' c ≠ 0) : g c = none := by
  cases e : g c with
  | none => rfl
  | some o => exact absurd (bs.old c o e) h
theorem S1.mg (s : S1 own' g' i v vs) (bs : Bs g own' g') (hi : i ≠ 0) : S1 (mgO g own own') g' i v vs := by
  rcases s with s | ⟨c, hc, s⟩
  · exact .inl s
  · exact .inr ⟨c, by rw [mgO_new (bs.new_ (by rw [hc]; exact hi))]; exact hc, s⟩
theorem B1.mg (s : B1 own' g' i b vs) (bs : Bs g own' g') (hi : i ≠ 0) : B1 (mgO g own own') g' i b vs := ⟨by
  obtain ⟨hc, _⟩ := s
  rw [mgO_new (bs.new_ (by rw [hc]; exact hi))]; exact hc, s.bl⟩
theorem MN.mg {bn n m : Nat} {fr to : Nat → Nat} {room cost ex pot : Nat → Int} (N : MN own' g' bn n m fr to room cost ex pot) (bs : Bs g own' g') : MN (mgO g own own') g' bn n m fr to room cost ex pot := by
  obtain ⟨vf, vt, vr, vc, vo, vx, vp, outs, k8, k1, k2, k3, k4, k5, k6, k7, ko⟩ := N.q
  exact ⟨vf, vt, vr, vc, vo, vx, vp, outs, k8.mg bs (by omega), k1.mg bs (by omega), k2.mg bs (by omega), k3.mg bs (by omega), k4.mg bs (by omega), k5.mg bs (by omega), k6.mg bs (by omega), k7.mg bs (by omega), fun v hv => (ko v hv).mg bs (by omega)⟩
theorem K4.fm {b6 b7 b8 b9 : Nat} {pl pl' : List Value} {co er co' er' : Int} {sv sv' : Value} (k : K4 b6 b7 b8 b9 g g') (P : P4 g b6 b7 b8 b9 pl co sv er) (P' : P4 g' b6 b7 b8 b9 pl' co' sv' er') (h6 : own b6 = 15) (h7 : own b7 = 16) (h8 : own b8 = 17) (h9 : own b9 = 18) : Fm [15, 16, 17, 18] own g own g' := by
  refine ⟨fun c o e n => k c o ?_ ?_ ?_ ?_ e, fun c o e => ⟨?_, rfl⟩⟩
  · rintro rfl; rw [h6] at n; simp at n
  · rintro rfl; rw [h7] at n; simp at n
  · rintro rfl; rw [h8] at n; simp at n
  · rintro rfl; rw [h9] at n; simp at n
  · by_cases e6 : c = b6
    · subst e6; obtain ⟨x, hx⟩ := P'.k6; exact ⟨_, hx⟩
    · by_cases e7 : c = b7
      · subst e7; obtain ⟨x, hx⟩ := P'.k7; exact ⟨_, hx⟩
      · by_cases e8 : c = b8
        · subst e8; obtain ⟨x, hx⟩ := P'.k8; exact ⟨_, hx⟩
        · by_cases e9 : c = b9
          · subst e9; obtain ⟨x, hx⟩ := P'.k9; exact ⟨_, hx⟩
          · exact ⟨o, k c o e6 e7 e8 e9 e⟩
theorem P4.of {b6 b7 b8 b9 : Nat} {pl : List Value} {co er : Int} {sv : Value} (hl : pl.length = 3) (k6 : B1 own g 15 b6 pl) (k7 : B1 own g 16 b7 [.int .i64 co]) (k8 : B1 own g 17 b8 [sv]) (k9 : B1 own g 18 b9 [.int .i64 er]) : P4 g b6 b7 b8 b9 pl co sv er := by
  have h6 := k6.own_
  have h7 := k7.own_
  have h8 := k8.own_
  have h9 := k9.own_
  refine ⟨hl, k6.bl, k7.bl, k8.bl, k9.bl, ?_, ?_, ?_, ?_, ?_, ?_⟩ <;> (rintro rfl; omega)
end

end Go.Proofs.YtjlojokockfapaaGreatDoor

namespace Go.Proofs.YtjlojokockfapaaGreatDoor
open Go
set_option linter.unusedVariables false
set_option linter.unusedSimpArgs false

section
variable {h : H} {w : List Value} {n : Int} {m l : Nat} {es : Nat → Ed} {sv : Value} {bf : Nat → Int}
theorem K4.ext_ {b6 b7 b8 b9 : Nat} {g g' : H} (x : Ext h g) (n6 : h b6 = none) (n7 : h b7 = none) (n8 : h b8 = none) (n9 : h b9 = none) (k : K4 b6 b7 b8 b9 g g') : Ext h g' := fun c o e => by
  refine k c o ?_ ?_ ?_ ?_ (x c o e)
  · rintro rfl; rw [n6] at e; cases e
  · rintro rfl; rw [n7] at e; cases e
  · rintro rfl; rw [n8] at e; cases e
  · rintro rfl; rw [n9] at e; cases e
/-- Behind the defer. -/
theorem SolveB_T {bn b1 b6 b7 b8 b9 : Nat} {v13 : Value} {ow : Own} {g : H} {k : Int} {f1 : FuncId} {rv : Value} {room pot : Nat → Int} (G : GrA h w l m es) (Z : RS h sv (ints l bf)) (gd : Gd l m es) (hw : wrong14 l m es l bf k = 0)
    (bs : Bs h ow g) (k14 : B1 ow g 14 b1 w) (k15 : B1 ow g 15 b6 plZ) (k16 : B1 ow g 16 b7 [.int .i64 0]) (k17 : B1 ow g 17 b8 [.slice none 0 0]) (k18 : B1 ow g 18 b9 [.int .i64 0]) (E : EvP l m (frE es) (toE es) (cpE es) bf)
    (hmeth : ∀ K : FuncId → Value → Prop, K f1 rv → methP Tryz.prog g v13 "compass/mincost.meet" K)
    (hT : T Tryz.prog f1 [rv] g (MeetA [3, 6, 7, 8, 10, 13, 20, 21, 22] ow g bn l m (frE es) (toE es) (cpE es) bf (cA (ckE es)))) (hM : ∃ room ex pot, MS ow g bn l m (frE es) (toE es) (cpE es) bf (cA (ckE es)) room ex pot) :
    BSolveB sv b1 b6 b7 b8 b9 (.pointer (some (bk bn))) v13 (SolveN (SolC h l m es l bf k) b6 b7 b8 b9) (SolveX (SolC h l m es l bf k) b6 b7 b8 b9) g := by
  have hm1 := E.m1
  have hn1 := E.n1
  have n6 : h b6 = none := bs.new_ (by rw [k15.own_]; omega)
  have n7 : h b7 = none := bs.new_ (by rw [k16.own_]; omega)
  have n8 : h b8 = none := bs.new_ (by rw [k17.own_]; omega)
  have n9 : h b9 = none := bs.new_ (by rw [k18.own_]; omega)
  unfold BSolveB
  refine hmeth _ (hT.mono ?_)
  rintro r g1 ⟨ow1, F1, hr⟩
  have bs0 := bs
  have k15g := k15
  have k16g := k16
  have k17g := k17
  have k18g := k18
  have bs := bs.fm F1 (by simp <;> omega)
  have k14 := k14.fm F1 (by simp <;> omega)
  have k15 := k15.fm F1 (by simp <;> omega)
  have k16 := k16.fm F1 (by simp <;> omega)
  have k17 := k17.fm F1 (by simp <;> omega)
  have k18 := k18.fm F1 (by simp <;> omega)
  rcases hr with ⟨rfl, room', ex', pot', S, ex0, red, pb⟩ | ⟨bsd, sd, rfl, hbs, sS, hlack⟩
  rotate_left
  · have P := P4.of rfl k15 k16 k17 k18
    refine ⟨_, _, _, _, slV bsd l, rfl, ⟨_, _, _, rfl⟩, P, fun g2 k4 P2 => ?_⟩
    have nb : ∀ {c : Nat} {vs : List Value}, Bl g c vs → bsd ≠ c := fun B => (B.ne hbs).symm
    obtain ⟨c, e, zs, h1, h2, h3⟩ := sS
    refine ⟨K4.ext_ bs.ext n6 n7 n8 n9 k4, .inr ⟨hw, rfl, gd, .inr ⟨bsd, sd, rfl, ?_, ⟨c, e, zs, h1, k4 _ _ (nb k15g.bl) (nb k16g.bl) (nb k17g.bl) (nb k18g.bl) h2, h3⟩, hlack⟩⟩⟩
    exact bs0.ext.new hbs
  obtain ⟨gv, rfl, Gv⟩ := G.gs
  obtain ⟨vf, vt, vr, vc, vo, vx, vp, outs, k8, k1, k2, k3, k4, k5, k6, k7, ko⟩ := S.net.q
  have rm := S.rm
  have bal := S.bal
  clear S k1 k2 k4 k5 k6 ko
  refine rt_ret ⟨rfl, ptrP_mk ⟨_, k14.ld rfl, (Gv.ext bs.ext).len fun _ _ => ⟨_, k8.ld rfl, new_put ?_⟩⟩⟩
  intro b11 g2 hb11 x11 h11
  have k24 : S1 (own1 ow1 b11 24) g2 24 (.slice (some (bk b11)) 0 0) [] := .inr ⟨b11, own1_at, 0, 2, [], rfl, h11, rfl⟩
  have bs := bs.nw (j := 24) x11 hb11
  have k14 := k14.nw (j := 24) x11 hb11
  have k15 := k15.nw (j := 24) x11 hb11
  have k16 := k16.nw (j := 24) x11 hb11
  have k17 := k17.nw (j := 24) x11 hb11
  have k18 := k18.nw (j := 24) x11 hb11
  have k3 := k3.nw (j := 24) x11 hb11
  have k7 := k7.nw (j := 24) x11 hb11
  have k8 := k8.nw (j := 24) x11 hb11
  generalize own1 ow1 b11 24 = ow2 at *
  refine k24.catR (Z.ext bs.ext) (by
    intro v hv
    unfold ints at hv
    obtain ⟨j, _, rfl⟩ := List.mem_map.1 hv
    rfl) (by omega) (by rw [ints_length]; simp; omega) ?_
  intro s7 ow3 g3 F2 k24
  rw [List.nil_append] at k24
  have k8' := k8
  have k14' := k14
  have bs := bs.fm F2 (by simp <;> omega)
  have k14 := k14.fm F2 (by simp <;> omega)
  have k15 := k15.fm F2 (by simp <;> omega)
  have k16 := k16.fm F2 (by simp <;> omega)
  have k17 := k17.fm F2 (by simp <;> omega)
  have k18 := k18.fm F2 (by simp <;> omega)
  have k3 := k3.fm F2 (by simp <;> omega)
  have k7 := k7.fm F2 (by simp <;> omega)
  have k8 := k8.fm F2 (by simp <;> omega)
  refine ⟨sameAt_b1 k8' k8, sameAt_b1 k14' k14, mk_ints 23 (by omega) (by omega) ?_⟩
  intro b15 g4 hb15 x15 S15
  have k23 := S15 ow3
  have bs := bs.nw (j := 23) x15 hb15
  have k14 := k14.nw (j := 23) x15 hb15
  have k15 := k15.nw (j := 23) x15 hb15
  have k16 := k16.nw (j := 23) x15 hb15
  have k17 := k17.nw (j := 23) x15 hb15
  have k18 := k18.nw (j := 23) x15 hb15
  have k3 := k3.nw (j := 23) x15 hb15
  have k7 := k7.nw (j := 23) x15 hb15
  have k8 := k8.nw (j := 23) x15 hb15
  have k24 := k24.nw (j := 23) x15 hb15
  generalize own1 ow3 b15 23 = ow4 at *
  clear S15 k8' k14'
  simp only [Int.toNat_natCast]
  refine oneP_slc k24.isS (oneP_slc k7.isS ?_)
  refine k15.stN rfl rfl (by
    intro v hv
    simp only [List.mem_cons, List.not_mem_nil, or_false] at hv
    rcases hv with rfl | rfl | rfl
    · exact k24.one
    · exact slc_one ⟨_, _, _, rfl⟩
    · exact k7.one) fun g5 F3 k15 => ?_
  have bs := bs.fm F3 (by simp <;> omega)
  have k14 := k14.fm F3 (by simp <;> omega)
  have k16 := k16.fm F3 (by simp <;> omega)
  have k17 := k17.fm F3 (by simp <;> omega)
  have k18 := k18.fm F3 (by simp <;> omega)
  have k3 := k3.fm F3 (by simp <;> omega)
  have k7 := k7.fm F3 (by simp <;> omega)
  have k8 := k8.fm F3 (by simp <;> omega)
  have k24 := k24.fm F3 (by simp <;> omega)
  have k23 := k23.fm F3 (by simp <;> omega)
  refine ⟨_, k14.ld rfl, (Gv.ext bs.ext).len fun _ _ => ?_⟩
  let I : (Int × Unit) → H → Nat → Prop := fun p q z => ∃ (s : Nat) (ow : Own) (fo : Nat → Int), p.1 = s ∧ s ≤ m ∧ z = m - s ∧ Bs h ow q ∧ B1 ow q 14 b1 [.int .i64 l, gv] ∧ B1 ow q 15 b6 [s7, slV b15 m, vp] ∧ B1 ow q 16 b7 [.int .i64 (totC s (ckE es) (onR room'))] ∧ B1 ow q 17 b8 [.slice none 0 0] ∧ B1 ow q 18 b9 [.int .i64 0] ∧
    S1 ow q 3 vr (ints (2 * m) room') ∧ S1 ow q 7 vp (ints l pot') ∧ B1 ow q 8 bn [vf, vt, vr, vc, vo, vx, vp] ∧ S1 ow q 24 s7 (ints l bf) ∧ S1 ow q 23 (slV b15 m) (ints m fo) ∧ ∀ j, j < s → fo j = onR room' j
  refine ⟨fun p q => ∃ k, I p q k, rk I, rk_wf I, ⟨_, 0, ow4, _, rfl, by omega, rfl, bs, k14, k15, k16, k17, k18, k3, k7, k8, k24, k23, fun j hj => by omega⟩, ?_⟩
  clear bs k14 k15 k16 k17 k18 k3 k7 k8 k24 k23
  intro p q hI
  obtain ⟨s, ow, fo, e1, hs, hz, bs, k14, k15, k16, k17, k18, k3, k7, k8, k24, k23, hfo⟩ := mu_spec hI
  generalize hkk : mu I ((p, ()), q) = km at *
  change p = (s : Int) at e1
  subst e1
  have hlt : s < m → m - (s + 1) < mu I (((s : Int), ()), q) := fun h => by rw [hkk, hz]; exact sub_dec h
  clear hI
  refine ifP_of (fun h1 => ?_) (fun h1 => ?_)
  · have hsm : s < m := by have := of_decide_eq_true h1; omega
    refine (Gv.ext bs.ext).e4 hsm (new_bl_st rfl rfl (ed_one _) ?_)
    intro b28 q2 hb28 x28 B28
    have k25 : B1 (own1 ow b28 25) q2 25 b28 (es s).vs := B1.new B28
    have bs := bs.nw (j := 25) x28 hb28
    have k14 := k14.nw (j := 25) x28 hb28
    have k15 := k15.nw (j := 25) x28 hb28
    have k16 := k16.nw (j := 25) x28 hb28
    have k17 := k17.nw (j := 25) x28 hb28
    have k18 := k18.nw (j := 25) x28 hb28
    have k3 := k3.nw (j := 25) x28 hb28
    have k7 := k7.nw (j := 25) x28 hb28
    have k8 := k8.nw (j := 25) x28 hb28
    have k24 := k24.nw (j := 25) x28 hb28
    have k23 := k23.nw (j := 25) x28 hb28
    generalize own1 ow b28 25 = ow at *
    have e1 : IntKind.i64.wrap (2 * (s : Int)) = ((2 * s : Nat) : Int) := by
      rw [show (2 * (s : Int)) = ((2 * s : Nat) : Int) by omega]; exact w64_in (by omega) (by omega)
    have e2 : IntKind.i64.wrap (((2 * s : Nat) : Int) + 1) = ((2 * s + 1 : Nat) : Int) := i64_inc (by omega)
    refine ptrP_mk ⟨_, k15.ld rfl, _, k8.ld rfl, ?_⟩
    rw [e1, e2, i64_inc (by omega)]
    refine k3.rdI (by omega) (k23.setI hsm fun q3 F4 k23 => ?_)
    have bs := bs.fm F4 (by simp <;> omega)
    have k14 := k14.fm F4 (by simp <;> omega)
    have k15 := k15.fm F4 (by simp <;> omega)
    have k16 := k16.fm F4 (by simp <;> omega)
    have k17 := k17.fm F4 (by simp <;> omega)
    have k18 := k18.fm F4 (by simp <;> omega)
    have k3 := k3.fm F4 (by simp <;> omega)
    have k7 := k7.fm F4 (by simp <;> omega)
    have k8 := k8.fm F4 (by simp <;> omega)
    have k24 := k24.fm F4 (by simp <;> omega)
    have k25 := k25.fm F4 (by simp <;> omega)
    refine k16.bl.ldI0 ⟨_, k25.ld rfl, _, k15.ld rfl, k23.rdI hsm ?_⟩
    rw [upd_at]
    have hb := totC_bd (m := s) (k := ckE es) (f := onR room') (C := 1048576) (X := 1048576) (by omega) (by omega) (fun i hi => gd.k i (by omega)) (fun i hi => rm.onb (fun i hi => (E.cp i hi).2) i (by omega))
    have hb1 := totC_bd (m := s + 1) (k := ckE es) (f := onR room') (C := 1048576) (X := 1048576) (by omega) (by omega) (fun i hi => gd.k i (by omega)) (fun i hi => rm.onb (fun i hi => (E.cp i hi).2) i (by omega))
    have et : totC (s + 1) (ckE es) (onR room') = totC s (ckE es) (onR room') + (es s).k * room' (2 * s + 1) := rfl
    rw [et] at hb1
    generalize hX : (es s).k * room' (2 * s + 1) = X at *
    have e3 : IntKind.i64.wrap X = X := w64_in (by omega) (by omega)
    have e4 : IntKind.i64.wrap (totC s (ckE es) (onR room') + X) = totC (s + 1) (ckE es) (onR room') := by rw [et]; exact w64_in (by omega) (by omega)
    rw [e3, e4]
    have st : stC q3 ((bk b7).add 0) (.int .i64 (totC (s + 1) (ckE es) (onR room'))) fun h43 => (∃ k, I (((s + 1 : Nat) : Int), ()) h43 k) ∧ rk I ((((s + 1 : Nat) : Int), ()), h43) (((s : Int), ()), q) := by
      refine k16.st (by simp) fun q4 F5 k16 => ?_
      have bs := bs.fm F5 (by simp <;> omega)
      have k14 := k14.fm F5 (by simp <;> omega)
      have k15 := k15.fm F5 (by simp <;> omega)
      have k17 := k17.fm F5 (by simp <;> omega)
      have k18 := k18.fm F5 (by simp <;> omega)
      have k3 := k3.fm F5 (by simp <;> omega)
      have k7 := k7.fm F5 (by simp <;> omega)
      have k8 := k8.fm F5 (by simp <;> omega)
      have k24 := k24.fm F5 (by simp <;> omega)
      have k23 := k23.fm F5 (by simp <;> omega)
      refine mu_next (I := I) (k := m - (s + 1)) ⟨s + 1, ow, _, rfl, hsm, rfl, bs, k14, k15, k16, k17, k18, k3, k7, k8, k24, k23, fun j hj => ?_⟩ (hlt hsm)
      by_cases e : j = s
      · subst e; rw [upd_at]; rfl
      · rw [upd_ne e]; exact hfo j (by omega)
    rwa [add_zero'] at st
  · have : s = m := by have := of_decide_eq_false h1; omega
    subst this
    have efo : ints s fo = ints s (onR room') := ints_ext hfo
    rw [efo] at k23
    have P := P4.of rfl k15 k16 k17 k18
    have h6 := k15.own_
    have h7 := k16.own_
    have h8 := k17.own_
    have h9 := k18.own_
    refine P.k6.ldN rfl (P.k7.ldI0 ?_)
    have one : ∀ v ∈ [s7, slV b15 s, vp], v.oneCell' = true := by
      intro v hv
      simp only [List.mem_cons, List.not_mem_nil, or_false] at hv
      rcases hv with rfl | rfl | rfl
      · exact k24.one
      · exact slc_one ⟨_, _, _, rfl⟩
      · exact k7.one
    refine P.s6 rfl one fun q1 K1 P1 => ?_
    refine ⟨by have := sameAt_bl (n := 2) (i := 0) P.k7 P1.k7; rwa [add_zero'] at this, P1.s7 fun q2 K2 P2 => P2.s8 fun q3 K3 P3 => P3.s9 fun q4 K4_ P4_ => ?_⟩
    refine ⟨_, _, _, _, P4_, fun g2 K5 P5 => ?_⟩
    have F := K4.fm (own := ow) ((((K1.trans K2).trans K3).trans K4_).trans K5) P P5 h6 h7 h8 h9
    have bs := bs.fm F (by simp <;> omega)
    have k7 := k7.fm F (by simp <;> omega)
    have k24 := k24.fm F (by simp <;> omega)
    have k23 := k23.fm F (by simp <;> omega)
    refine ⟨bs.ext, .inr ⟨hw, rfl, gd, .inl ⟨ow, s7, slV b15 s, vp, onR room', pot', rfl, bs, k24, k23, k7, rm.plan fun v hv => by have := bal v hv; have := ex0 v hv; omega, RedP.pot rm fun a ha hr => red a ha hr, pb⟩⟩⟩
end

end Go.Proofs.YtjlojokockfapaaGreatDoor

namespace Go.Proofs.YtjlojokockfapaaGreatDoor
open Go
set_option linter.unusedVariables false
set_option linter.unusedSimpArgs false

section
variable {h : H} {w : List Value} {n : Int} {m l : Nat} {es : Nat → Ed} {sv : Value} {bf : Nat → Int}
theorem Gd.ev (gd : Gd l m es) (hs : supOK l l bf) : EvP l m (frE es) (toE es) (cpE es) bf :=
  ⟨gd.n1, gd.m1, fun i hi => gd.ends i hi, gd.c, hs.2.1, hs.2.2⟩
/-- The answer to a wrong task. -/
theorem err14 {b3 b5 b7 b9 : Nat} {q : H} {c k : Int} (xq : Ext h q) (n3 : h b3 = none) (n5 : h b5 = none) (n7 : h b7 = none) (n9 : h b9 = none) (P : P4 q b3 b5 b7 b9 plZ 0 (.slice none 0 0) 0) (hc : wrong14 n m es l bf k = c) (h0 : c ≠ 0) :
    stN q (bk b3) plZ 3 fun h34 => stC h34 (bk b5) (.int .i64 0) fun h35 => stC h35 (bk b7) (.slice none 0 0) fun h36 => stC h36 (bk b9) (.int .i64 c) fun h37 =>
      ldN h37 (bk b3) 3 fun x38 => ldI h37 (bk b5) .i64 fun x39 => ldV h37 (bk b7) fun x40 => ldI h37 (bk b9) .i64 fun x41 => SolC h n m es l bf k (.ret (.tuple ⟨[.agg ⟨x38⟩, .int .i64 x39, x40, .int .i64 x41]⟩)) h37 :=
  P.s6 rfl plZ_one fun q1 K1 P => P.s7 fun q2 K2 P => P.s8 fun q3 K3 P => P.s9 fun q4 K4_ P =>
    P.read ⟨K4.ext_ xq n3 n5 n7 n9 (((K1.trans K2).trans K3).trans K4_), .inl ⟨by rw [hc]; exact h0, by rw [hc]⟩⟩
theorem MSolve_T (G : GrA h w n m es) (Z : RS h sv (ints l bf)) (k : Int) : T Tryz.prog F.mincost_Solve [.agg ⟨w⟩, sv, .int .i64 k] h (SolC h n m es l bf k) := by
  refine Solve_of ?_
  unfold BSolveA
  refine new_bl ?_
  intro b1 g1 hb1 x1 B1_
  have bs : Bs h (own1 (fun _ => 0) b1 14) g1 := Bs.start.new x1 hb1
  have k14 : B1 (own1 (fun _ => 0) b1 14) g1 14 b1 w := B1.new B1_
  generalize own1 (fun _ => 0) b1 14 = ow at *
  refine new_bl ?_
  intro b3 g3 hb3 x3 B3
  have k15 : B1 (own1 ow b3 15) g3 15 b3 plZ := B1.new B3
  have bs := bs.nw (j := 15) x3 hb3
  have k14 := k14.nw (j := 15) x3 hb3
  generalize own1 ow b3 15 = ow at *
  refine new_bl ?_
  intro b5 g5 hb5 x5 B5
  have k16 : B1 (own1 ow b5 16) g5 16 b5 [.int .i64 0] := B1.new B5
  have bs := bs.nw (j := 16) x5 hb5
  have k14 := k14.nw (j := 16) x5 hb5
  have k15 := k15.nw (j := 16) x5 hb5
  generalize own1 ow b5 16 = ow at *
  refine new_bl ?_
  intro b7 g7 hb7 x7 B7
  have k17 : B1 (own1 ow b7 17) g7 17 b7 [.slice none 0 0] := B1.new B7
  have bs := bs.nw (j := 17) x7 hb7
  have k14 := k14.nw (j := 17) x7 hb7
  have k15 := k15.nw (j := 17) x7 hb7
  have k16 := k16.nw (j := 17) x7 hb7
  generalize own1 ow b7 17 = ow at *
  refine new_bl ?_
  intro b9 g9 hb9 x9 B9
  have k18 : B1 (own1 ow b9 18) g9 18 b9 [.int .i64 0] := B1.new B9
  have bs := bs.nw (j := 18) x9 hb9
  have k14 := k14.nw (j := 18) x9 hb9
  have k15 := k15.nw (j := 18) x9 hb9
  have k16 := k16.nw (j := 18) x9 hb9
  have k17 := k17.nw (j := 18) x9 hb9
  generalize own1 ow b9 18 = ow at *
  clear x1 x3 x5 x7 x9 B1_ B3 B5 B7 B9 hb1 hb3 hb5 hb7 hb9
  have n3 : h b3 = none := bs.new_ (by rw [k15.own_]; omega)
  have n5 : h b5 = none := bs.new_ (by rw [k16.own_]; omega)
  have n7 : h b7 = none := bs.new_ (by rw [k17.own_]; omega)
  have n9 : h b9 = none := bs.new_ (by rw [k18.own_]; omega)
  refine k14.ldN G.one.1 ((Check_T (G.ext bs.ext)).mono ?_)
  rintro _ q ⟨rfl, x⟩
  refine rt_ret ⟨_, rfl, rfl, ?_⟩
  have bs := bs.ext_ x
  have k14 := k14.ext x
  have k15 := k15.ext x
  have k16 := k16.ext x
  have k17 := k17.ext x
  have k18 := k18.ext x
  clear x
  refine new_bl_st rfl rfl (by simp [Value.oneCell']) ?_
  intro b15 q2 hb15 x15 B15
  have k19 : B1 (own1 ow b15 19) q2 19 b15 _ := B1.new B15
  have bs := bs.nw (j := 19) x15 hb15
  have k14 := k14.nw (j := 19) x15 hb15
  have k15 := k15.nw (j := 19) x15 hb15
  have k16 := k16.nw (j := 19) x15 hb15
  have k17 := k17.nw (j := 19) x15 hb15
  have k18 := k18.nw (j := 19) x15 hb15
  generalize own1 ow b15 19 = ow at *
  clear x15 hb15 B15
  have P := P4.of rfl k15 k16 k17 k18
  have h6 := k15.own_
  have h7 := k16.own_
  have h8 := k17.own_
  have h9 := k18.own_
  have e19 := k19.own_
  refine ⟨_, k19.ld rfl, ifP_of (fun h0 => ?_) (fun h0 => ?_)⟩
  · have h0 : (faultG n m es).1 ≠ 0 := by simpa using h0
    have hc : wrong14 n m es l bf k = (faultG n m es).1 := by unfold wrong14; rw [if_neg h0]
    have kk : ∀ {q q' : H}, Bl q b15 [.int .i64 (faultG n m es).1, .int .i64 (faultG n m es).2] → K4 b3 b5 b7 b9 q q' → Bl q' b15 [.int .i64 (faultG n m es).1, .int .i64 (faultG n m es).2] := fun B k4 => by
      obtain ⟨e, hb⟩ := B
      exact ⟨e, k4 _ _ (by rintro rfl; omega) (by rintro rfl; omega) (by rintro rfl; omega) (by rintro rfl; omega) hb⟩
    refine P.k6.ldN rfl ⟨_, k19.ld rfl, P.s6 rfl plZ_one fun q1 K1 P => ?_⟩
    have B1' := kk k19.bl K1
    refine ⟨sameAt_bl k19.bl B1', P.s7 fun q2 K2 P => ?_⟩
    have B2' := kk B1' K2
    refine ⟨sameAt_bl B1' B2', P.s8 fun q3 K3 P => ?_⟩
    have B3' := kk B2' K3
    refine ⟨sameAt_bl B2' B3', P.s9 fun q4 K4_ P => ?_⟩
    exact P.read ⟨K4.ext_ bs.ext n3 n5 n7 n9 (((K1.trans K2).trans K3).trans K4_), .inl ⟨by rw [hc]; exact h0, by rw [hc]⟩⟩
  have h0 : (faultG n m es).1 = 0 := by simpa using h0
  obtain ⟨n, rfl, gd⟩ := Gd.of h0
  refine k14.ldN G.one.1 ((supplied_T (G.ext bs.ext) (by have := gd.n1; omega) (Z.ext bs.ext)).mono ?_)
  rintro _ q3 ⟨x, hr⟩
  have bs := bs.ext_ x
  have k14 := k14.ext x
  have k15 := k15.ext x
  have k16 := k16.ext x
  have k17 := k17.ext x
  have k18 := k18.ext x
  have P := P4.of rfl k15 k16 k17 k18
  rcases hr with ⟨hs, rfl⟩ | ⟨hs, rfl⟩
  rotate_left
  · refine rt_ret ⟨_, rfl, ifP_of (fun _ => ?_) (fun h => by simp at h)⟩
    have hc : wrong14 n m es l bf k = 130 := by unfold wrong14; rw [if_pos h0, if_neg hs]
    exact P.k6.ldN rfl (err14 bs.ext n3 n5 n7 n9 P hc (by omega))
  refine rt_ret ⟨_, rfl, ifP_of (fun h => by simp at h) (fun _ => ?_)⟩
  have hnl : n = l := by have := hs.1; omega
  subst hnl
  have E := gd.ev hs
  refine k14.ldN G.one.1 ((mnet_T (G.ext bs.ext) gd (Z.ext bs.ext)).mono ?_)
  rintro _ q4 ⟨bn, own', rfl, bs4, N⟩
  have F4 : Fm [] ow q3 (mgO q3 ow own') q4 := bs4.mg
  have N : MN (mgO q3 ow own') q4 bn _ _ _ _ _ _ _ _ := N.mg bs4
  have bs := bs.fm F4 (by simp <;> omega)
  have k14 := k14.fm F4 (by simp <;> omega)
  have k15 := k15.fm F4 (by simp <;> omega)
  have k16 := k16.fm F4 (by simp <;> omega)
  have k17 := k17.fm F4 (by simp <;> omega)
  have k18 := k18.fm F4 (by simp <;> omega)
  generalize mgO q3 ow own' = ow4 at *
  have S : MS ow4 q4 bn n m (frE es) (toE es) (cpE es) bf (cA (ckE es)) (room0 (cpE es)) bf (fun _ => 0) := ⟨N, room0_ok fun i hi => (gd.c i hi).1, fun v hv => by rw [room0_out]; omega⟩
  have r0 : ∀ i, i < m → room0 (cpE es) (2 * i + 1) = 0 := fun i _ => by unfold room0; rw [if_neg (by omega)]
  have hcost : ∀ a, a < 2 * m → cA (ckE es) a = cA (ckE es) a := fun _ _ => rfl
  have hok : 1 ≤ k ∧ k ≤ 3 → wrong14 n m es n bf k = 0 := fun h => by unfold wrong14; rw [if_pos h0, if_pos hs, if_pos h]
  have up : ∀ {M : List Nat} {own : Own} {h : H} {r : Res} {h' : H}, M ⊆ [3, 6, 7, 8, 10, 13, 20, 21, 22] → MeetA M own h bn n m (frE es) (toE es) (cpE es) bf (cA (ckE es)) r h' → MeetA [3, 6, 7, 8, 10, 13, 20, 21, 22] own h bn n m (frE es) (toE es) (cpE es) bf (cA (ckE es)) r h' :=
    fun hM ⟨o, F, r⟩ => ⟨o, F.mono hM, r⟩
  refine rt_ret (ifP_of (fun h1 => ?_) (fun h1 => ifP_of (fun h2 => ?_) (fun h2 => ifP_of (fun h3 => ?_) (fun h3 => ?_))))
  · have h1 := of_decide_eq_true h1
    refine oneP_ptr ⟨b1, b3, b5, b7, b9, _, _, rfl, ?_⟩
    exact SolveB_T G Z gd (hok (by omega)) bs k14 k15 k16 k17 k18 E (f1 := F.mincost_ways_meet) (rv := .agg ⟨[.pointer (some (bk bn))]⟩) (room := fun _ => 0) (pot := fun _ => 0) (fun K hK => ⟨_, _, fun w _ => meth70 _ w, hK⟩) ((ways_T S E gd.k hcost r0 fun _ _ => rfl).mono fun r h' hr => up (by simp) hr) ⟨_, _, _, S⟩
  · have h2 := of_decide_eq_true h2
    refine oneP_ptr ⟨b1, b3, b5, b7, b9, _, _, rfl, ?_⟩
    exact SolveB_T G Z gd (hok (by omega)) bs k14 k15 k16 k17 k18 E (f1 := F.mincost_circles_meet) (rv := .agg ⟨[.pointer (some (bk bn))]⟩) (room := fun _ => 0) (pot := fun _ => 0) (fun K hK => ⟨_, _, fun w _ => meth71 _ w, hK⟩) ((circles_T S E gd.k hcost).mono fun r h' hr => up (by simp) hr) ⟨_, _, _, S⟩
  · have h3 := of_decide_eq_true h3
    refine oneP_ptr (new_bl ?_)
    intro b45 q5 hb45 x45 B45
    have k10 : B1 (own1 ow4 b45 10) q5 10 b45 _ := B1.new B45
    have S : MS (own1 ow4 b45 10) q5 bn n m (frE es) (toE es) (cpE es) bf (cA (ckE es)) (room0 (cpE es)) bf (fun _ => 0) := ⟨S.net.nw x45 hb45, S.rm, S.bal⟩
    have bs := bs.nw (j := 10) x45 hb45
    have k14 := k14.nw (j := 10) x45 hb45
    have k15 := k15.nw (j := 10) x45 hb45
    have k16 := k16.nw (j := 10) x45 hb45
    have k17 := k17.nw (j := 10) x45 hb45
    have k18 := k18.nw (j := 10) x45 hb45
    generalize own1 ow4 b45 10 = ow5 at *
    refine ⟨b1, b3, b5, b7, b9, _, _, rfl, ?_⟩
    exact SolveB_T G Z gd (hok (by omega)) bs k14 k15 k16 k17 k18 E (f1 := F.mincost_scaling_meet) (rv := .pointer (some (bk b45))) (room := fun _ => 0) (pot := fun _ => 0) (fun K hK => ⟨_, _, fun w _ => meth72 _ w, hK⟩) (scaling_T S E gd.k hcost r0 (fun _ _ => rfl) k10) ⟨_, _, _, S⟩
  · have hc : wrong14 n m es n bf k = 50 := by
      have h1 := of_decide_eq_false h1
      have h2 := of_decide_eq_false h2
      have h3 := of_decide_eq_false h3
      unfold wrong14
      rw [if_pos h0, if_pos hs, if_neg (by omega)]
    have P := P4.of rfl k15 k16 k17 k18
    exact P.k6.ldN rfl (err14 bs.ext n3 n5 n7 n9 P hc (by omega))
end

end Go.Proofs.YtjlojokockfapaaGreatDoor

namespace Go.Proofs.YtjlojokockfapaaGreatDoor
open Go
set_option linter.unusedVariables false
set_option linter.unusedSimpArgs false

/-- The graph of awake. -/
def esB (i : Nat) : Ed := match i with
  | 0 => ⟨0, 1, 9, 5⟩
  | _ => ⟨0, 1, 2, 3⟩
def bB (x y : Int) (i : Nat) : Int := match i with
  | 0 => x
  | _ => y
theorem Bl.rs {h : H} {b : Nat} {vs : List Value} (B : Bl h b vs) : RS h (.slice (some (bk b)) vs.length vs.length) vs := by
  refine ⟨_, _, rfl, fun j x hj => ⟨_, rfl, ?_⟩⟩
  rw [Nat.mul_one]; exact B.ld hj
section
variable {h : H} {own : Own} {n m l : Nat} {es : Nat → Ed} {bf f p : Nat → Int} {vs von vp : Value}
theorem PlanR.one (P : PlanR own h n m es bf vs von vp f p) : ∀ v ∈ plV vs von vp, v.oneCell' = true := by
  intro v hv
  simp only [List.mem_cons, List.not_mem_nil, or_false] at hv
  rcases hv with rfl | rfl | rfl
  · exact P.s.one
  · exact P.o.one
  · exact P.po.one
end

end Go.Proofs.YtjlojokockfapaaGreatDoor

namespace Go.Proofs.YtjlojokockfapaaGreatDoor
open Go
set_option linter.unusedVariables false
set_option linter.unusedSimpArgs false

section
variable {h : H} {w : List Value} {n : Int} {m l : Nat} {es : Nat → Ed} {sv : Value} {bf : Nat → Int}
theorem PlanP.none_ {sd : Nat → Bool} {f : Nat → Int} (gd : Gd l m es) (P : PlanP l m (frE es) (toE es) (cpE es) bf f) : ¬ cutC m (frE es) (toE es) (cpE es) (fun v => sd v = true) < sumN l fun v => if sd v = true then bf v else 0 := fun hl => by
  have := P.side gd.ends (fun v => sd v = true)
  have e : (sumN l fun v => if sd v = true then bf v else 0) = sumN l fun v => @ite Int (sd v = true) (Classical.propDecidable _) (bf v) 0 := sumN_congr fun v _ => by by_cases h : sd v = true <;> simp [h]
  rw [e] at hl
  omega
end

end Go.Proofs.YtjlojokockfapaaGreatDoor

namespace Go.Proofs.YtjlojokockfapaaGreatDoor
open Go
set_option linter.unusedVariables false
set_option linter.unusedSimpArgs false

/-- Another cost at a place. -/
def cstE (es : Nat → Ed) (j : Nat) (x : Int) (i : Nat) : Ed := if i = j then ⟨(es i).f, (es i).t, (es i).c, x⟩ else es i
theorem S4.setK {own : Own} {h : H} {i m : Nat} {v : Value} {es : Nat → Ed} {j : Nat} {x : Int} {K : H → Prop} (s : S4 own h i v m es) (hj : j < m)
    (k : ∀ g, Fm [i] own h own g → S4 own g i v m (cstE es j x) → K g) : ixS v (j : Int) 4 fun a => stC h (a.add 3) (.int .i64 x) K := by
  rcases s with ⟨rfl, _⟩ | ⟨b, c, e, zs, hb, rfl, h2, h3⟩
  · omega
  · refine nx hj ?_
    rw [bk_add, bk_add2]
    have hlt : j * 4 + 3 < m * 4 := at_lt hj (by omega)
    have e2 : hset h ⟨b, j * 4 + 3, none⟩ [.int .i64 x] b = some (.cells ⟨recs m 4 (edF (cstE es j x)) ++ zs⟩ e (0, 0)) := by
      unfold hset
      rw [if_pos rfl, h2]
      simp only [Option.map_some, setR]
      rw [List.setIfInBounds_toArray, List.set_append_left _ _ (by rw [recs_length]; exact hlt), recs_set hj (by omega)]
      congr 4
      have : ∀ l, l < m → ∀ q, q < 4 → upd2 (edF es) j 3 x l q = edF (cstE es j x) l q := fun l hl q hq => by
        unfold upd2 edF cstE
        by_cases e1 : l = j
        · subst e1
          rw [if_pos rfl]
          match q with
          | 0 => rw [if_neg (fun h => by cases h.2)]; rfl
          | 1 => rw [if_neg (fun h => by cases h.2)]; rfl
          | 2 => rw [if_neg (fun h => by cases h.2)]; rfl
          | 3 => rw [if_pos ⟨rfl, rfl⟩]; rfl
          | q + 4 => omega
        · rw [if_neg (fun h => e1 h.1), if_neg e1]
      unfold recs
      refine ints_ext fun i hi => ?_
      exact this _ (Nat.div_lt_of_lt_mul (by rw [Nat.mul_comm]; exact hi)) _ (Nat.mod_lt _ (by omega))
    refine ⟨⟨_, _, h2, rfl, ?_⟩, k _ (Fm.kp (b := b) ?_ hb ⟨_, e2⟩) (.inr ⟨b, c, e, zs, hb, rfl, e2, h3⟩)⟩
    · simp only [List.size_toArray, List.length_append, recs_length]; omega
    · intro k o hk hh
      unfold hset
      rw [if_neg hk]; exact hh
/-- The graph of flows. -/
def esC (_ : Nat) : Ed := ⟨0, 1, 2, 1⟩
theorem esC_flow : FlowP 2 1 (frE esC) (toE esC) (cpE esC) 0 1 (fun _ => 2) := ⟨by decide, by decide⟩
theorem esC_max : MaxP 2 1 (frE esC) (toE esC) (cpE esC) 0 1 (fun _ => 2) := by
  refine ⟨esC_flow, fun r => ?_⟩
  have := r.closed (C := fun v => v = 0) rfl (by
    rintro u v rfl ⟨i, hi, h⟩
    rcases h with ⟨h1, h2, h3⟩ | ⟨h1, h2, h3⟩
    · exact absurd h3 (by show ¬ (2 : Int) < 2; decide)
    · exact h2.symm)
  omega
theorem esC_13 : wrong13 2 1 esC 0 1 1 = 0 := by decide
theorem esC_14 : wrong14 2 1 esC 2 (bB 2 (-2)) 1 = 0 := by decide
theorem esC_plan : PlanP 2 1 (frE esC) (toE esC) (cpE esC) (bB 2 (-2)) (fun _ => 2) := ⟨by decide, by decide⟩
end Go.Proofs.YtjlojokockfapaaGreatDoor

namespace Go.Proofs.YtjlojokockfapaaGreatDoor
open Go
set_option linter.unusedVariables false
set_option linter.unusedSimpArgs false

/-- One number is appended, however long the slice is. -/
theorem S1.push1 {own : Own} {h : H} {i ex : Nat} {p z x : Value} {vs : List Value} {K : Nat → H → Value → H → Prop} {e bytes : Nat} (s : S1 own h i p vs)
    (one : x.oneCell' = true) (hb : bytes ≤ 8) (hl : vs.length ≤ 17592186044416)
    (k : ∀ bx hm p' own' h', h bx = none → Ext h hm → Fm [i] own h own' h' → S1 own' h' i p' (vs ++ [x]) → K bx hm p' h') :
    newP h (.cells ⟨[x]⟩ ex (0, 0)) fun bx hm => apP p (.slice (some (bk bx)) 1 1) hm 1 e bytes [z] (K bx hm) := by
  refine new_put ?_
  intro bx hm hbx xm hx
  have hsrc : srcP hm (some (bk bx)) (1 * 1) [x] := by
    refine ⟨rfl, fun j v hj => ?_⟩
    rw [bk_add, hcell_at hx, List.getElem?_toArray]
    exact hj
  have hzl : ∀ m, (zrep [z] m).length = m := by intro m; simp [zrep]
  rcases s with ⟨rfl, rfl⟩ | ⟨b, hob, c, eb, zs, rfl, h2, h3⟩
  · refine ⟨[x], hsrc, fun hle => by omega, fun hlt => ⟨?_, [], ⟨rfl, rfl⟩, fun cap hcap => ?_⟩⟩
    · have := nextcap_le hlt
      calc _ ≤ (2 * (0 + 1) + 192) * bytes := Nat.mul_le_mul_right _ this
        _ ≤ (2 * (0 + 1) + 192) * 8 := Nat.mul_le_mul_left _ hb
        _ ≤ _ := by omega
    · refine new_put ?_
      intro b g hbn x1 e1
      rw [Nat.zero_add] at e1 hcap ⊢
      refine k bx hm _ (own1 own b i) g hbx xm (Fm.new (xm.trans' x1) (xm.new hbn)) (.inr ⟨b, own1_at, cap, e, zrep [z] (cap - 1), rfl, by rw [e1], ?_⟩)
      rw [hzl]; simp; omega
  · have h2m := xm _ _ h2
    refine ⟨[x], hsrc, fun hle => ⟨fun _ => ?_, by simpa using one, ?_⟩, fun hlt => ⟨?_, vs, ⟨by rw [Nat.mul_one], ?_⟩, fun cap hcap => ?_⟩⟩
    · rw [bk_add]
      refine ⟨_, _, h2m, rfl, ?_⟩
      simp only [List.size_toArray, List.length_append, List.length_singleton]
      omega
    · rw [bk_add]
      have e2 : hset hm ⟨b, vs.length * 1, none⟩ [x] b = some (.cells ⟨vs ++ [x] ++ zs.drop 1⟩ eb (0, 0)) := by
        unfold hset
        rw [if_pos rfl, h2m]
        simp only [Option.map_some, Nat.mul_one]
        rw [setR_list _ _ _ (by simp; omega)]
        simp [List.take_append, List.drop_append]
      refine k bx hm _ own _ hbx xm ((Fm.of_ext xm).trans (Fm.kp (b := b) ?_ hob ⟨_, e2⟩)) (.inr ⟨b, hob, c, eb, zs.drop 1, by simp, e2, by simp; omega⟩)
      intro j o hj hh
      unfold hset
      rw [if_neg hj]; exact hh
    · have hcm : c = vs.length := by omega
      subst hcm
      calc _ ≤ (vs.length + vs.length / 4 + 600) * bytes := Nat.mul_le_mul_right _ nextcap1_le
        _ ≤ (vs.length + vs.length / 4 + 600) * 8 := Nat.mul_le_mul_left _ hb
        _ ≤ _ := by omega
    · intro j v hj
      rw [bk_add, hcell_at h2m, List.getElem?_toArray]
      have := (List.getElem?_eq_some_iff.1 hj).1
      rw [List.getElem?_append_left this]
      exact hj
    · refine new_put ?_
      intro b' g hbn x1 e1
      refine k bx hm _ (own1 own b' i) g hbx xm (Fm.new (xm.trans' x1) (xm.new hbn)) (.inr ⟨b', own1_at, cap, e, zrep [z] (cap - (vs.length + 1)), by simp, by rw [e1], ?_⟩)
      rw [hzl]; simp; omega
theorem ints_push {j : Nat} {f : Nat → Int} : ints (j + 1) f = ints j f ++ [.int .i64 (f j)] := by
  unfold ints; rw [List.range_succ, List.map_append]; rfl

end Go.Proofs.YtjlojokockfapaaGreatDoor

namespace Go.Proofs.YtjlojokockfapaaGreatDoor
open Go
set_option linter.unusedVariables false
set_option linter.unusedSimpArgs false

section
variable {h : H}
theorem flows1_R : T Tryz.prog F.compasstop_flows [] h fun r h' => r = .ret (.bool true) ∧ Ext h h' := by
  refine E_compasstop_flows ?_
  unfold B_compasstop_flows
  refine ⟨rfl, new_bl ?_⟩
  intro b1 q1 hb1 x1 B1_
  have Gv : Gs q1 (.slice (some (bk b1)) 1 1) 1 esC := by
    refine ⟨_, _, rfl, fun i hi => ⟨_, rfl, fun j v hj => ?_⟩⟩
    rw [bk_add, bk_add2, ← bk_add]
    refine B1_.ld ?_
    match i, hi with
    | 0, _ => match j, hj with
      | 0, hj => exact hj
      | 1, hj => exact hj
      | 2, hj => exact hj
      | 3, hj => exact hj
  refine new_bl_st rfl rfl (by simp [Value.oneCell']) ?_
  intro b3 q5 hb3 x5 B3
  have x15 := x1.trans' x5
  have Gv := Gv.ext x5
  refine B3.ldN rfl ((Solve1_T (Gv.gr 2) 0 1 1 rfl).mono ?_)
  intro r q6 hA
  obtain ⟨x6, ⟨hw, _⟩ | ⟨_, n', s', t', c1, c2, f, sd, e1, e2, e3, hs, ht, hst, gd, rfl, S⟩⟩ := hA
  · exact absurd esC_13 hw
  have : n' = 2 := by omega
  subst this
  have : s' = 0 := by omega
  subst this
  have : t' = 1 := by omega
  subst this
  have hv : OutF 1 (frE esC) (toE esC) f 0 = 2 := (S.mx.uniq esC_max (by decide) (by omega)).1
  rw [hv]
  refine rt_ret ⟨_, rfl, _, _, rfl, new_bl_st rfl rfl (by simp [Value.oneCell']) ?_⟩
  intro b12 q14 hb12 x14 B12
  have xa := x6.trans' x14
  refine (B3.ext xa).ldN rfl (new_bl ?_)
  intro b16 q17 hb16 x17 B16
  have xb := xa.trans' x17
  refine (MSolve_T ((Gv.ext xb).gr 2) (l := 2) (bf := bB 2 (-2)) B16.rs 1).mono ?_
  rintro _ q19 ⟨x19, hr⟩
  rcases hr with ⟨h, _⟩ | ⟨_, _, gd2, hr⟩
  · exact absurd esC_14 h
  rcases hr with ⟨own, vs, von, vp, f2, p, rfl, bs, P⟩ | ⟨bs, sd2, rfl, _, _, hl⟩
  rotate_left
  · exact absurd hl (esC_plan.none_ gd2)
  have h3 := P.pl.out 0 (by omega)
  change (0 + (f2 0 - 0)) = 2 at h3
  have ht : totC 1 (ckE esC) f2 = 2 := by
    show 0 + 1 * f2 0 = 2; omega
  rw [ht]
  refine rt_ret ⟨_, rfl, _, _, _, rfl, new_bl_st rfl rfl P.one ?_⟩
  intro b24 q25 hb24 x25 B24
  refine ifP_of (fun _ => ifP_of (fun _ => ifP_of (fun _ => ⟨rfl, ((x15.trans' xb).trans' x19).trans' x25⟩) (fun h => by simp at h)) (fun h => by simp at h)) (fun h => by simp at h)
end

end Go.Proofs.YtjlojokockfapaaGreatDoor

namespace Go.Proofs.YtjlojokockfapaaGreatDoor
open Go
set_option linter.unusedVariables false
set_option linter.unusedSimpArgs false

/-- The word of a sign and a rung. -/
def wd (s : Bool) (r : Nat) : Nat := if s then 9223372036854775808 + r else r
/-- The rung of a number. -/
def rg (M : Nat) (P : Int) : Nat := (P + 1074).toNat * 4503599627370496 + M
/-- A number as a word has it. -/
structure Can (M : Nat) (P : Int) : Prop where
  lt : M < 9007199254740992
  lo : -1074 ≤ P
  hi : P ≤ 971
  nr : 4503599627370496 ≤ M ∨ P = -1074
/-- M times 2^P, as a whole number of 2^-4000. -/
def vE (M : Nat) (P : Int) : Nat := M * 2 ^ (P + 4000).toNat
theorem sw_eq : Ieee.double.signWeight = 9223372036854775808 := rfl
theorem bin_eq : Ieee.double.binade = 4503599627370496 := rfl
theorem inf_eq : Ieee.double.infRung = 9218868437227405312 := rfl
theorem lp_eq : Ieee.double.leastPlace = -1074 := rfl
theorem fb_eq : Ieee.double.fractionBits = 52 := rfl
theorem wd_lt {s : Bool} {r : Nat} (h : r < 9223372036854775808) : wd s r < 18446744073709551616 := by unfold wd; split <;> omega
theorem word_wd {s : Bool} {r : Nat} : Ieee.double.word s r = wd s r := by unfold Ieee.Format.word wd; rw [sw_eq]
theorem wd_cases {b : Nat} (h : b < 18446744073709551616) : ∃ s r, r < 9223372036854775808 ∧ b = wd s r := by
  by_cases h1 : b < 9223372036854775808
  · exact ⟨false, b, h1, rfl⟩
  · exact ⟨true, b - 9223372036854775808, by omega, by show b = 9223372036854775808 + _; omega⟩
theorem read_wd {s : Bool} {r : Nat} (h : r < 9223372036854775808) : Ieee.double.read (wd s r) =
    if r < 4503599627370496 then .number s r (-1074) else if r < 9218868437227405312 then .number s (4503599627370496 + r % 4503599627370496) (-1074 + ((r / 4503599627370496 - 1 : Nat) : Int))
    else if r = 9218868437227405312 then .infinity s else .nan s (r - 9218868437227405312) := by
  have e1 : (wd s r / 9223372036854775808 % 2 == 1) = s := by
    cases s with
    | false => have : wd false r / 9223372036854775808 % 2 = 0 := by show r / _ % 2 = 0; omega
               rw [this]; rfl
    | true => have : wd true r / 9223372036854775808 % 2 = 1 := by show (9223372036854775808 + r) / _ % 2 = 1; omega
              rw [this]; rfl
  have e2 : wd s r % 9223372036854775808 = r := by
    cases s with
    | false => show r % _ = r; omega
    | true => show (9223372036854775808 + r) % _ = r; omega
  unfold Ieee.Format.read
  rw [sw_eq, bin_eq, inf_eq, lp_eq, e1, e2]
section
variable {M N : Nat} {P Q : Int} {s : Bool}
theorem Can.rg_lt (c : Can M P) : rg M P < 9218868437227405312 := by
  have := c.lt; have := c.lo; have := c.hi
  unfold rg; omega
theorem Can.read (c : Can M P) : Ieee.double.read (wd s (rg M P)) = .number s M P := by
  have h1 := c.rg_lt
  have := c.lt; have := c.lo; have := c.hi
  rw [read_wd (by omega)]
  rcases c.nr with h | h
  · have e : rg M P = (P + 1074).toNat * 4503599627370496 + M := rfl
    rw [if_neg (by omega), if_pos h1]
    have e1 : rg M P % 4503599627370496 = M - 4503599627370496 := by omega
    have e2 : rg M P / 4503599627370496 = (P + 1074).toNat + 1 := by omega
    have e3 : 4503599627370496 + rg M P % 4503599627370496 = M := by omega
    have e4 : (-1074 + ((rg M P / 4503599627370496 - 1 : Nat) : Int)) = P := by omega
    rw [e3, e4]
  · have e : rg M P = M := by unfold rg; rw [h]; simp
    rw [e] at h1 ⊢
    by_cases h2 : M < 4503599627370496
    · rw [if_pos h2, h]
    · rw [if_neg h2, if_pos h1]
      have e3 : 4503599627370496 + M % 4503599627370496 = M := by omega
      have e4 : (-1074 + ((M / 4503599627370496 - 1 : Nat) : Int)) = P := by omega
      rw [e3, e4]
theorem can_of {r : Nat} (h : r < 9218868437227405312) : ∃ M P, Can M P ∧ r = rg M P := by
  by_cases h1 : r < 4503599627370496
  · exact ⟨r, -1074, ⟨by omega, by omega, by omega, .inr rfl⟩, by unfold rg; simp⟩
  · refine ⟨4503599627370496 + r % 4503599627370496, -1074 + ((r / 4503599627370496 - 1 : Nat) : Int), ⟨by omega, by omega, by omega, .inl (by omega)⟩, ?_⟩
    unfold rg
    rw [show (-1074 + ((r / 4503599627370496 - 1 : Nat) : Int) + 1074).toNat = r / 4503599627370496 - 1 by omega]
    omega
theorem log2_pow {M d : Nat} (h : M ≠ 0) : (M * 2 ^ d).log2 = M.log2 + d := by
  have hp : 0 < 2 ^ d := Nat.two_pow_pos d
  have h2 : M * 2 ^ d ≠ 0 := Nat.mul_ne_zero h (by omega)
  rw [Nat.log2_eq_iff h2]
  obtain ⟨a, b⟩ := (Nat.log2_eq_iff h).1 rfl
  constructor
  · rw [Nat.pow_add]; exact Nat.mul_le_mul_right _ a
  · rw [show M.log2 + d + 1 = M.log2 + 1 + d by omega, Nat.pow_add]; exact Nat.mul_lt_mul_of_pos_right b hp
theorem vE_le {a b : Nat} {i j : Int} (hi : -4000 ≤ i) (hij : i ≤ j) : vE a i = vE b j ↔ a = b * 2 ^ (j - i).toNat := by
  unfold vE
  have e : (j + 4000).toNat = (j - i).toNat + (i + 4000).toNat := by omega
  rw [e, Nat.pow_add, ← Nat.mul_assoc]
  exact ⟨fun h => Nat.mul_right_cancel (Nat.two_pow_pos _) h, fun h => by rw [h]⟩
theorem vE_shift {a b : Nat} {i j e : Int} (hi : -4000 ≤ i) (hj : -4000 ≤ j) (hi2 : -4000 ≤ i + e) (hj2 : -4000 ≤ j + e) (h : vE a i = vE b j) : vE a (i + e) = vE b (j + e) := by
  by_cases hij : i ≤ j
  · rw [vE_le hi hij] at h
    rw [vE_le hi2 (by omega), show j + e - (i + e) = j - i by omega]; exact h
  · have h := h.symm
    rw [vE_le hj (by omega)] at h
    refine Eq.symm ?_
    rw [vE_le hj2 (by omega), show i + e - (j + e) = i - j by omega]; exact h
theorem vE_ne {a : Nat} {i : Int} (h : a ≠ 0) : vE a i ≠ 0 := Nat.mul_ne_zero h (by have := Nat.two_pow_pos (i + 4000).toNat; omega)
theorem vE_0 {a : Nat} {i : Int} (h : vE a i = 0) : a = 0 := by
  apply Classical.byContradiction
  intro hn
  exact vE_ne hn h
theorem vE_log {a b : Nat} {i j : Int} (hi : -4000 ≤ i) (hj : -4000 ≤ j) (hb : b ≠ 0) (h : vE a i = vE b j) : i + (a.log2 : Int) = j + (b.log2 : Int) := by
  by_cases hij : i ≤ j
  · rw [(vE_le hi hij).1 h, log2_pow hb]; omega
  · have ha : a ≠ 0 := fun e => vE_ne hb (by rw [← h, e]; simp [vE])
    rw [(vE_le hj (by omega)).1 h.symm, log2_pow ha]; omega
theorem Can.log (c : Can M P) (h : M ≠ 0) : max (P + (M.log2 : Int) - 52) (-1074) = P := by
  have h1 : M.log2 < 53 := (Nat.log2_lt h).2 (by have := c.lt; simpa using this)
  have := c.lo
  rcases c.nr with h2 | h2
  · have : 52 ≤ M.log2 := (Nat.le_log2 h).2 (by simpa using h2)
    omega
  · omega
/-- The word nearest to a number that the format has is that number's. -/
theorem nearest_can {mag : Nat} {place : Int} (c : Can M P) (hM : M ≠ 0) (hp : -4000 ≤ place) (h : vE mag place = vE M P) : Ieee.double.nearest s mag place = wd s (rg M P) := by
  have hmag : mag ≠ 0 := by rintro rfl; exact vE_ne hM (by rw [← h]; simp [vE])
  have hl := vE_log hp (by have := c.lo; omega) hM h
  have hlast : max (place + (mag.log2 : Int) - 52) (-1074) = P := by rw [hl]; exact c.log hM
  have hr := c.rg_lt
  unfold Ieee.Format.nearest
  rw [if_neg hmag, fb_eq, lp_eq, bin_eq, inf_eq]
  dsimp only
  rw [show ((52 : Nat) : Int) = 52 from rfl, hlast, word_wd]
  have hcut : Ieee.Toward.even.cut s (mag <<< (place - P).toNat) (P - place).toNat = M := by
    unfold Ieee.Toward.cut
    by_cases hij : place ≤ P
    · have e := (vE_le hp hij).1 h
      have e0 : (place - P).toNat = 0 := by omega
      generalize (P - place).toNat = d at *
      have hd : d ≤ mag.log2 := by rw [e, log2_pow hM]; omega
      rw [e0, Nat.shiftLeft_zero, Nat.min_eq_left (by omega), Nat.one_shiftLeft, e]
      have hp2 := Nat.two_pow_pos d
      have q : M * 2 ^ d / 2 ^ d = M := Nat.mul_div_cancel _ hp2
      have r : M * 2 ^ d % 2 ^ d = 0 := Nat.mul_mod_left _ _
      dsimp only
      rw [q, r]
      have z : ¬ 2 ^ d < 2 * 0 := by omega
      have z2 : ¬ 2 ^ d = 2 * 0 := by omega
      simp [z, z2]
    · have e := (vE_le (by have := c.lo; omega) (by omega)).1 h.symm
      have e0 : (P - place).toNat = 0 := by omega
      have e1 : mag <<< (place - P).toNat = M := by rw [Nat.shiftLeft_eq]; exact e.symm
      rw [e0, Nat.zero_min, e1]
      simp
      omega
  rw [hcut]
  congr 1
  exact Nat.min_eq_left (by unfold rg at hr; omega)
/-- A number of at most 53 digits has a word. -/
theorem can_ex {m : Nat} {p : Int} (hm : m ≠ 0) (h53 : m < 9007199254740992) (hp : -1074 ≤ p) (hh : p + (m.log2 : Int) ≤ 1023) : ∃ M P, Can M P ∧ vE M P = vE m p ∧ M ≠ 0 := by
  have h1 : m.log2 < 53 := (Nat.log2_lt hm).2 (by simpa using h53)
  obtain ⟨d, hd⟩ : ∃ d : Nat, (d : Int) = min (52 - (m.log2 : Int)) (p + 1074) := ⟨(min (52 - (m.log2 : Int)) (p + 1074)).toNat, by omega⟩
  have hl := log2_pow (d := d) hm
  have h2 : m * 2 ^ d ≠ 0 := Nat.mul_ne_zero hm (by have := Nat.two_pow_pos d; omega)
  refine ⟨m * 2 ^ d, p - d, ⟨?_, by omega, by omega, ?_⟩, ?_, h2⟩
  · have := (Nat.log2_lt (k := 53) h2).1 (by omega)
    simpa using this
  · by_cases h3 : (d : Int) = p + 1074
    · exact .inr (by omega)
    · refine .inl ?_
      have := (Nat.le_log2 (k := 52) h2).1 (by omega)
      simpa using this
  · rw [vE_le (by omega) (by omega), show (p - (p - (d : Int))).toNat = d by omega]
/-- Two words of one number are one. -/
theorem Can.uniq (a : Can M P) (b : Can N Q) (hM : M ≠ 0) (h : vE M P = vE N Q) : M = N ∧ P = Q := by
  have hN : N ≠ 0 := by rintro rfl; exact vE_ne hM (by rw [h]; simp [vE])
  have h1 := vE_log (by have := a.lo; omega) (by have := b.lo; omega) hN h
  have h2 := a.log hM
  have h3 := b.log hN
  have e : P = Q := by omega
  subst e
  exact ⟨by have := (vE_le (by have := a.lo; omega) (Int.le_refl P)).1 h; simpa using this, rfl⟩
theorem mul_can {x y m n : Nat} {i j : Int} {t : Bool} (hx : Ieee.double.read x = .number s m i) (hy : Ieee.double.read y = .number t n j) (c : Can M P) (hM : M ≠ 0) (hp : -4000 ≤ i + j) (h : vE (m * n) (i + j) = vE M P) :
    Ieee.double.mul x y = some (wd (s ^^ t) (rg M P)) := by
  unfold Ieee.Format.mul
  rw [hx, hy]
  show some (Ieee.double.nearest (s ^^ t) (m * n) (i + j)) = _
  rw [nearest_can c hM hp h]
theorem mul_some {x y m n : Nat} {i j : Int} {t : Bool} (hx : Ieee.double.read x = .number s m i) (hy : Ieee.double.read y = .number t n j) : ∃ r, Ieee.double.mul x y = some r := by
  unfold Ieee.Format.mul
  rw [hx, hy]
  exact ⟨_, rfl⟩
end

end Go.Proofs.YtjlojokockfapaaGreatDoor

namespace Go.Proofs.YtjlojokockfapaaGreatDoor
open Go
set_option linter.unusedVariables false
set_option linter.unusedSimpArgs false
set_option maxRecDepth 100000

abbrev flo (b : Nat) : Value := .float .f64 b
theorem u31 : Tryz.prog.underlying 31 = some (.float .f64) := by kernel_rfl
theorem u2 : Tryz.prog.underlying 2 = some (.int .i64) := by kernel_rfl
theorem u33 : Tryz.prog.underlying 33 = some (.int .u64) := by kernel_rfl
section
variable {h : H} {a b : Nat} {ox oy : Operand}
theorem fbits_P {R : Res → H → Prop} (k : R (.ret (.int .u64 b)) h) : extP Tryz.prog F.math_Float64bits [flo b] h R := by
  refine ⟨_, fun w _ => ?_, k⟩
  rw [run_callFunc_extern (fn := Tryz.f26) (e := Extern.MathFloatBits.float64bits) Tryz.func26 (by kernel_rfl) (by kernel_rfl) (by kernel_rfl) (by kernel_rfl)]
  rfl
theorem fromb_P {n : Int} {R : Res → H → Prop} (k : R (.ret (flo n.toNat)) h) : extP Tryz.prog F.math_Float64frombits [.int .u64 n] h R := by
  refine ⟨_, fun w _ => ?_, k⟩
  rw [run_callFunc_extern (fn := Tryz.f5) (e := Extern.MathFloatBits.float64frombits) Tryz.func5 (by kernel_rfl) (by kernel_rfl) (by kernel_rfl) (by kernel_rfl)]
  rfl
theorem feq_P {K : Value → Prop} (k : K (.bool (Ieee.double.order a b == some .eq))) : binP Tryz.prog .eql 31 ox oy (flo a) (flo b) h K := by
  unfold binP
  rw [u31]
  exact ⟨_, fun w _ => rfl, k⟩
theorem fne_P {K : Value → Prop} (k : K (.bool (Ieee.double.order a b != some .eq))) : binP Tryz.prog .neq 31 ox oy (flo a) (flo b) h K := by
  unfold binP
  rw [u31]
  exact ⟨_, fun w _ => rfl, k⟩
theorem flt_P {K : Value → Prop} (k : K (.bool (Ieee.double.order a b == some .lt))) : binP Tryz.prog .lss 31 ox oy (flo a) (flo b) h K := by
  unfold binP
  rw [u31]
  exact ⟨_, fun w _ => rfl, k⟩
theorem fgt_P {K : Value → Prop} (k : K (.bool (Ieee.double.order a b == some .gt))) : binP Tryz.prog .gtr 31 ox oy (flo a) (flo b) h K := by
  unfold binP
  rw [u31]
  exact ⟨_, fun w _ => rfl, k⟩
theorem fmul_P {r : Nat} {K : Value → Prop} (hr : Ieee.double.mul a b = some r) (k : K (flo r)) : binP Tryz.prog .mul 31 ox oy (flo a) (flo b) h K := by
  unfold binP
  rw [u31]
  refine ⟨_, fun w _ => ?_, k⟩
  have := run_float_arith (P := Tryz.prog) w .mul 31 .f64 a b r hr
  exact this
theorem fneg_P {K : Value → Prop} (k : K (flo (a ^^^ 2 ^ 63))) : unP Tryz.prog .neg (flo a) h K := ⟨_, fun w _ => rfl, k⟩
theorem fint_P {n : Int} {K : Value → Prop} (hr : floatToIntVal .f64 a .i64 = some n) (k : K (.int .i64 n)) : convP Tryz.prog 31 2 (flo a) h K := by
  unfold convP
  rw [u31, u2]
  exact ⟨_, fun w _ => run_convert_float_int (P := Tryz.prog) w _ _ .f64 .i64 a n (by rw [u31]; rfl) u2 hr, k⟩
theorem ffloat_P {n : Int} {K : Value → Prop} (k : K (flo (floatOfInt .f64 n))) : convP Tryz.prog 33 31 (.int .u64 n) h K := by
  unfold convP
  rw [u33, u31]
  exact ⟨_, fun w _ => run_convert_int_float (P := Tryz.prog) w _ _ .u64 .f64 n (by rw [u33]; rfl) u31, k⟩
end

section
variable {a b M N : Nat} {P Q : Int} {s t : Bool}
theorem order_nn {m n : Nat} {i j : Int} (ha : Ieee.double.read a = .number s m i) (hb : Ieee.double.read b = .number t n j) :
    Ieee.double.order a b = some (compare (Ieee.signed s m (i - min i j).toNat) (Ieee.signed t n (j - min i j).toNat)) := by
  unfold Ieee.Format.order
  rw [ha, hb]; rfl
theorem read_0 : Ieee.double.read 0 = .number false 0 (-1074) := by
  have := (⟨by omega, by omega, by omega, .inr rfl⟩ : Can 0 (-1074)).read (s := false)
  exact this
theorem order_nan {f : Nat} (ha : Ieee.double.read a = .nan s f) : Ieee.double.order a b = none := by
  unfold Ieee.Format.order
  rw [ha]; rfl
/-- Is it 0? -/
theorem order_0 {m : Nat} {i : Int} (ha : Ieee.double.read a = .number s m i) : (Ieee.double.order a 0 == some .eq) = decide (m = 0) := by
  rw [order_nn ha read_0]
  generalize (i - min i (-1074)).toNat = d
  have e2 : Ieee.signed false 0 ((-1074 : Int) - min i (-1074)).toNat = 0 := by unfold Ieee.signed; simp
  rw [e2]
  have hp := Nat.two_pow_pos d
  by_cases hm : m = 0
  · subst hm
    have : Ieee.signed s 0 d = 0 := by unfold Ieee.signed; cases s <;> simp
    rw [this]; simp
  · have : Ieee.signed s m d ≠ 0 := by
      have : m <<< d ≠ 0 := by rw [Nat.shiftLeft_eq]; exact Nat.mul_ne_zero hm (by omega)
      unfold Ieee.signed
      cases s <;> simp <;> omega
    rw [decide_eq_false hm]
    rw [beq_eq_false_iff_ne]
    intro e
    have := Option.some.inj e
    exact absurd (Int.compare_eq_eq.1 this) (by assumption)
theorem order_inf0 (ha : Ieee.double.read a = .infinity s) : (Ieee.double.order a 0 == some .eq) = false := by
  unfold Ieee.Format.order
  rw [ha, read_0]
  cases s <;> rfl
/-- The same number twice. -/
theorem order_same (a1 : Can M P) (h : vE M P = vE N Q) (b1 : Can N Q) (hs : M ≠ 0 → s = t) : Ieee.double.order (wd s (rg M P)) (wd t (rg N Q)) = some .eq := by
  rw [order_nn a1.read b1.read]
  by_cases hM : M = 0
  · have hN : N = 0 := vE_0 (by rw [← h, hM]; simp [vE])
    subst hM hN
    have : ∀ s d, Ieee.signed s 0 d = 0 := fun s d => by unfold Ieee.signed; cases s <;> simp
    rw [this, this]; rfl
  · obtain ⟨rfl, rfl⟩ := a1.uniq b1 hM h
    rw [hs hM]
    congr 1
    exact Int.compare_eq_eq.2 rfl
end

theorem bits_nat {k : BinOp} {x y : Nat} (hx : x < 18446744073709551616) (hy : y < 18446744073709551616) : bitsI .and .u64 (x : Int) (y : Int) = ((x &&& y : Nat) : Int) ∧ bitsI .or .u64 (x : Int) (y : Int) = ((x ||| y : Nat) : Int) ∧
    bitsI .andNot .u64 (x : Int) (y : Int) = ((x &&& (18446744073709551615 - y) : Nat) : Int) := by
  have e1 : (BitVec.ofInt 64 (x : Int)).toNat = x := by rw [BitVec.ofInt_natCast, BitVec.toNat_ofNat]; exact Nat.mod_eq_of_lt hx
  have e2 : (BitVec.ofInt 64 (y : Int)).toNat = y := by rw [BitVec.ofInt_natCast, BitVec.toNat_ofNat]; exact Nat.mod_eq_of_lt hy
  have w : ∀ z : Nat, z < 18446744073709551616 → IntKind.u64.wrap (z : Int) = z := fun z hz => by
    show (z : Int) % 18446744073709551616 = z
    omega
  have l1 : x &&& y < 2 ^ 64 := Nat.and_lt_two_pow _ hy
  have l2 : x ||| y < 2 ^ 64 := Nat.or_lt_two_pow hx hy
  have l3 : x &&& (18446744073709551615 - y) < 2 ^ 64 := Nat.and_lt_two_pow _ (by omega)
  refine ⟨?_, ?_, ?_⟩
  · show IntKind.u64.wrap ((BitVec.ofInt 64 (x : Int) &&& BitVec.ofInt 64 (y : Int)).toNat : Int) = _
    rw [BitVec.toNat_and, e1, e2, w _ l1]
  · show IntKind.u64.wrap ((BitVec.ofInt 64 (x : Int) ||| BitVec.ofInt 64 (y : Int)).toNat : Int) = _
    rw [BitVec.toNat_or, e1, e2, w _ l2]
  · show IntKind.u64.wrap ((BitVec.ofInt 64 (x : Int) &&& ~~~BitVec.ofInt 64 (y : Int)).toNat : Int) = _
    rw [BitVec.toNat_and, BitVec.toNat_not, e1, e2]
    have : 2 ^ 64 - 1 - y = 18446744073709551615 - y := rfl
    rw [this, w _ l3]
/-- Two parts, each by itself. -/
theorem and_parts {i a b c d : Nat} (hb : b < 2 ^ i) (hd : d < 2 ^ i) : (2 ^ i * a + b) &&& (2 ^ i * c + d) = 2 ^ i * (a &&& c) + (b &&& d) := by
  apply Nat.eq_of_testBit_eq
  intro j
  rw [Nat.testBit_and, Nat.testBit_two_pow_mul_add _ hb, Nat.testBit_two_pow_mul_add _ hd, Nat.testBit_two_pow_mul_add _ (Nat.and_lt_two_pow _ hd)]
  split <;> rw [Nat.testBit_and]
theorem or_parts {i a b c d : Nat} (hb : b < 2 ^ i) (hd : d < 2 ^ i) : (2 ^ i * a + b) ||| (2 ^ i * c + d) = 2 ^ i * (a ||| c) + (b ||| d) := by
  apply Nat.eq_of_testBit_eq
  intro j
  rw [Nat.testBit_or, Nat.testBit_two_pow_mul_add _ hb, Nat.testBit_two_pow_mul_add _ hd, Nat.testBit_two_pow_mul_add _ (Nat.or_lt_two_pow hb hd)]
  split <;> rw [Nat.testBit_or]
/-- Without its sign. -/
theorem abs_bits {s : Bool} {r : Nat} (h : r < 9223372036854775808) : wd s r &&& (18446744073709551615 - 9223372036854775808) = r := by
  have e : wd s r = 2 ^ 63 * (if s then 1 else 0) + r := by unfold wd; cases s <;> simp
  have := and_parts (i := 63) (a := if s then 1 else 0) (b := r) (c := 0) (d := 9223372036854775807) (by simpa using h) (by decide)
  rw [e, show 18446744073709551615 - 9223372036854775808 = 2 ^ 63 * 0 + 9223372036854775807 from rfl, this, Nat.and_zero, Nat.mul_zero, Nat.zero_add]
  rw [show 9223372036854775807 = 2 ^ 63 - 1 from rfl, Nat.and_two_pow_sub_one_eq_mod]
  exact Nat.mod_eq_of_lt (by simpa using h)
/-- Without its exponent. -/
theorem frac_bits {s : Bool} {E F : Nat} (hE : E < 2048) (hF : F < 4503599627370496) : wd s (E * 4503599627370496 + F) &&& (18446744073709551615 - 9218868437227405312) = wd s F := by
  have e : wd s (E * 4503599627370496 + F) = 2 ^ 52 * ((if s then 2048 else 0) + E) + F := by unfold wd; cases s <;> simp <;> omega
  have := and_parts (i := 52) (a := (if s then 2048 else 0) + E) (b := F) (c := 2048) (d := 4503599627370495) (by simpa using hF) (by decide)
  rw [e, show 18446744073709551615 - 9218868437227405312 = 2 ^ 52 * 2048 + 4503599627370495 from rfl, this]
  have e2 : ((if s then 2048 else 0) + E) &&& 2048 = if s then 2048 else 0 := by
    have q := and_parts (i := 11) (a := if s then 1 else 0) (b := E) (c := 1) (d := 0) (by simpa using hE) (by decide)
    have e3 : (if s then 2048 else 0) + E = 2 ^ 11 * (if s then 1 else 0) + E := by cases s <;> simp
    rw [e3, show 2048 = 2 ^ 11 * 1 + 0 from rfl, q, Nat.and_zero]
    cases s <;> simp
  have e4 : F &&& 4503599627370495 = F := by
    rw [show 4503599627370495 = 2 ^ 52 - 1 from rfl, Nat.and_two_pow_sub_one_eq_mod]
    exact Nat.mod_eq_of_lt (by simpa using hF)
  rw [e2, e4]
  unfold wd
  cases s <;> simp
/-- Another exponent. -/
theorem exp_bits {s : Bool} {E F : Nat} (hE : E < 2048) (hF : F < 4503599627370496) : wd s F ||| (E * 4503599627370496) = wd s (E * 4503599627370496 + F) := by
  have e : wd s F = 2 ^ 52 * (if s then 2048 else 0) + F := by unfold wd; cases s <;> simp
  have := or_parts (i := 52) (a := if s then 2048 else 0) (b := F) (c := E) (d := 0) (by simpa using hF) (by decide)
  rw [e, show E * 4503599627370496 = 2 ^ 52 * E + 0 by omega, this, Nat.or_zero]
  have e2 : (if s then 2048 else 0) ||| E = (if s then 2048 else 0) + E := by
    have q := or_parts (i := 11) (a := if s then 1 else 0) (b := 0) (c := 0) (d := E) (by decide) (by simpa using hE)
    cases s with
    | false => simp
    | true =>
      have q : 2048 ||| E = 2048 + E := by simpa using q
      simpa using q
  rw [e2]
  unfold wd
  cases s <;> simp <;> omega

section
variable {h : H}
theorem Abs_T {s : Bool} {r : Nat} (hr : r < 9223372036854775808) : T Tryz.prog F.math_Abs [flo (wd s r)] h fun x h' => x = .ret (flo r) ∧ h' = h := by
  refine E_math_Abs ?_
  unfold B_math_Abs
  refine fbits_P ⟨_, rfl, ?_⟩
  rw [show (9223372036854775808 : Int) = ((9223372036854775808 : Nat) : Int) from rfl, (bits_nat (k := .and) (wd_lt hr) (by omega)).2.2, abs_bits hr]
  exact fromb_P ⟨by rw [Int.toNat_natCast], rfl⟩
/-- What a word is. -/
inductive Kd : Nat → Prop
  | num {s M P} (c : Can M P) : Kd (wd s (rg M P))
  | inf {s} : Kd (wd s 9218868437227405312)
  | nan {s r} (h1 : 9218868437227405312 < r) (h2 : r < 9223372036854775808) : Kd (wd s r)
theorem Kd.of {b : Nat} (h : b < 18446744073709551616) : Kd b := by
  obtain ⟨s, r, hr, rfl⟩ := wd_cases h
  by_cases h1 : r < 9218868437227405312
  · obtain ⟨M, P, c, rfl⟩ := can_of h1
    exact .num c
  · by_cases h2 : r = 9218868437227405312
    · subst h2; exact .inf
    · exact .nan (by omega) hr
theorem read_inf {s : Bool} : Ieee.double.read (wd s 9218868437227405312) = .infinity s := by rw [read_wd (by omega)]; rfl
theorem read_nan {s : Bool} {r : Nat} (h1 : 9218868437227405312 < r) (h2 : r < 9223372036854775808) : Ieee.double.read (wd s r) = .nan s (r - 9218868437227405312) := by
  rw [read_wd h2, if_neg (by omega), if_neg (by omega), if_neg (by omega)]
/-- Is it no number? -/
def nanB (b : Nat) : Bool := decide (9218868437227405312 < b % 9223372036854775808)
/-- Is it infinite? -/
def infB (b : Nat) : Bool := decide (b % 9223372036854775808 = 9218868437227405312)
theorem wd_mod {s : Bool} {r : Nat} (h : r < 9223372036854775808) : wd s r % 9223372036854775808 = r := by unfold wd; cases s <;> simp <;> omega
theorem IsNaN_T {b : Nat} (hb : b < 18446744073709551616) : T Tryz.prog F.math_IsNaN [flo b] h fun x h' => x = .ret (.bool (nanB b)) ∧ h' = h := by
  refine E_math_IsNaN ?_
  unfold B_math_IsNaN
  refine fne_P ⟨?_, rfl⟩
  congr 2
  unfold nanB
  rcases Kd.of hb with ⟨c⟩ | _ | ⟨h1, h2⟩
  · rw [order_same c rfl c (fun _ => rfl), wd_mod (by have := c.rg_lt; omega), decide_eq_false (by have := c.rg_lt; omega)]; rfl
  · rename_i s
    rw [wd_mod (by omega), decide_eq_false (by omega)]
    unfold Ieee.Format.order
    rw [read_inf]
    cases s <;> rfl
  · rw [order_nan (read_nan h1 h2), wd_mod h2, decide_eq_true h1]; rfl
theorem IsInf_T {b : Nat} (hb : b < 18446744073709551616) : T Tryz.prog F.math_IsInf [flo b, .int .i64 0] h fun x h' => x = .ret (.bool (infB b)) ∧ h' = h := by
  refine E_math_IsInf ?_
  unfold B_math_IsInf
  have cm : Can 9007199254740991 971 := ⟨by omega, by omega, by omega, .inl (by omega)⟩
  have em : (9218868437227405311 : Nat) = wd false (rg 9007199254740991 971) := rfl
  refine ifP_of (fun _ => ?_) (fun h => by simp at h)
  rcases Kd.of hb with ⟨c⟩ | _ | ⟨h1, h2⟩
  · rename_i s M P
    have hl := c.rg_lt
    refine (Abs_T (by omega)).mono ?_
    rintro _ _ ⟨rfl, rfl⟩
    refine rt_ret (fgt_P ⟨?_, rfl⟩)
    congr 2
    unfold infB
    rw [wd_mod (by omega), decide_eq_false (by omega)]
    have : Ieee.double.order (wd false (rg _ _)) (wd false (rg 9007199254740991 971)) = _ := order_nn c.read cm.read
    rw [em, show rg _ _ = wd false (rg _ _) from rfl, this, beq_eq_false_iff_ne]
    intro e
    have e := Option.some.inj e
    rw [Int.compare_eq_gt] at e
    have := c.lt; have := c.hi; have := c.lo
    rw [show (971 : Int) - min P 971 = 971 - P by omega, show P - min P 971 = 0 by omega] at e
    unfold Ieee.signed at e
    simp only [Bool.false_eq_true, if_false, Int.toNat_zero, Nat.shiftLeft_zero] at e
    have hp := Nat.two_pow_pos (971 - P).toNat
    rw [Nat.shiftLeft_eq] at e
    have := Nat.mul_le_mul_left 9007199254740991 hp
    omega
  · rename_i s
    refine (Abs_T (by omega)).mono ?_
    rintro _ _ ⟨rfl, rfl⟩
    refine rt_ret (fgt_P ⟨?_, rfl⟩)
    congr 2
    unfold infB
    rw [wd_mod (by omega), decide_eq_true rfl, em]
    unfold Ieee.Format.order
    rw [cm.read, show (9218868437227405312 : Nat) = wd false 9218868437227405312 from rfl, read_inf]
    rfl
  · rename_i s r
    refine (Abs_T h2).mono ?_
    rintro _ _ ⟨rfl, rfl⟩
    refine rt_ret (fgt_P ⟨?_, rfl⟩)
    congr 2
    unfold infB
    rw [wd_mod h2, decide_eq_false (by omega), show r = wd false r from rfl, order_nan (read_nan h1 h2)]; rfl
end

end Go.Proofs.YtjlojokockfapaaGreatDoor

namespace Go.Proofs.YtjlojokockfapaaGreatDoor
open Go
set_option linter.unusedVariables false
set_option linter.unusedSimpArgs false
set_option maxRecDepth 100000

theorem wi64 {x : Int} (h1 : -9223372036854775808 ≤ x) (h2 : x ≤ 9223372036854775807) : IntKind.i64.wrap x = x := w64_in h1 (by omega)
theorem wu64 {z : Nat} (h : z < 18446744073709551616) : IntKind.u64.wrap (z : Int) = z := by
  show (z : Int) % 18446744073709551616 = z
  omega
theorem bits_i64 {x y : Nat} (hx : x < 9223372036854775808) (hy : y < 9223372036854775808) : bitsI .and .i64 (x : Int) (y : Int) = ((x &&& y : Nat) : Int) := by
  have e1 : (BitVec.ofInt 64 (x : Int)).toNat = x := by rw [BitVec.ofInt_natCast, BitVec.toNat_ofNat]; exact Nat.mod_eq_of_lt (by omega)
  have e2 : (BitVec.ofInt 64 (y : Int)).toNat = y := by rw [BitVec.ofInt_natCast, BitVec.toNat_ofNat]; exact Nat.mod_eq_of_lt (by omega)
  have l1 : x &&& y < 2 ^ 63 := Nat.and_lt_two_pow _ hy
  show IntKind.i64.wrap ((BitVec.ofInt 64 (x : Int) &&& BitVec.ofInt 64 (y : Int)).toNat : Int) = _
  rw [BitVec.toNat_and, e1, e2]
  exact w64_in (by omega) (by omega)
theorem fdiv52 {x : Nat} : ((x : Int).fdiv (2 ^ (min (52 : Int).toNat 64))) = ((x / 4503599627370496 : Nat) : Int) := by
  rw [show ((2 : Int) ^ (min (52 : Int).toNat 64)) = 4503599627370496 from rfl, Int.fdiv_eq_ediv_of_nonneg _ (by omega)]
  omega
section
variable {h : H} {s : Bool} {M N : Nat} {P Q : Int}
theorem rg_split (hP : -1074 ≤ P) (h : 4503599627370496 ≤ N) : rg N P = (P + 1075).toNat * 4503599627370496 + (N - 4503599627370496) := by
  unfold rg; omega
theorem exp_of {E F : Nat} (hE : E < 2048) (hF : F < 4503599627370496) : (wd s (E * 4503599627370496 + F) / 4503599627370496) &&& 2047 = E := by
  have : wd s (E * 4503599627370496 + F) / 4503599627370496 % 2048 = E := by unfold wd; cases s <;> simp <;> omega
  rw [show 2047 = 2 ^ 11 - 1 from rfl, Nat.and_two_pow_sub_one_eq_mod]
  exact this
/-- What a number becomes that is made normal. -/
structure Nrm (M : Nat) (P : Int) (N : Nat) (P1 e0 : Int) : Prop where
  can : Can N P1
  nr : 4503599627370496 ≤ N
  ez : e0 = 0 ∨ e0 = -52
  v : vE N (P1 + e0) = vE M P
theorem normalize_T (c : Can M P) (hM : M ≠ 0) : T Tryz.prog F.math_normalize [flo (wd s (rg M P))] h fun x h' => ∃ (N : Nat) (P1 e0 : Int), x = .ret (.tuple ⟨[flo (wd s (rg N P1)), .int .i64 e0]⟩) ∧ Nrm M P N P1 e0 ∧ h' = h := by
  refine E_math_normalize ?_
  unfold B_math_normalize
  have hl := c.rg_lt
  have clo := c.lo
  have chi := c.hi
  refine (Abs_T (by omega)).mono ?_
  rintro _ _ ⟨rfl, rfl⟩
  have c0 : Can 4503599627370496 (-1074) := ⟨by omega, by omega, by omega, .inl (by omega)⟩
  have ho : (Ieee.double.order (rg M P) 4503599627370496 == some .lt) = decide (M < 4503599627370496) := by
    have : Ieee.double.order (wd false (rg M P)) (wd false (rg 4503599627370496 (-1074))) = _ := order_nn c.read c0.read
    rw [show rg M P = wd false (rg M P) from rfl, show (4503599627370496 : Nat) = wd false (rg 4503599627370496 (-1074)) from rfl, this]
    rw [show min P (-1074) = -1074 by omega, show ((-1074 : Int) - -1074).toNat = 0 from rfl]
    unfold Ieee.signed
    simp only [Bool.false_eq_true, if_false, Nat.shiftLeft_zero, Nat.shiftLeft_eq]
    have hp := Nat.two_pow_pos (P - -1074).toNat
    have hq := Nat.mul_le_mul_left M hp
    by_cases h1 : M < 4503599627370496
    · have e : P = -1074 := by rcases c.nr with h | h <;> omega
      rw [decide_eq_true (show M < wd false (rg 4503599627370496 (-1074)) from h1), beq_iff_eq]
      refine congrArg some (Int.compare_eq_lt.2 ?_)
      rw [e]
      show ((M * 1 : Nat) : Int) < ((4503599627370496 * 1 : Nat) : Int)
      omega
    · rw [decide_eq_false (show ¬ M < wd false (rg 4503599627370496 (-1074)) from h1), beq_eq_false_iff_ne]
      intro e
      have e := Option.some.inj e
      rw [Int.compare_eq_lt] at e
      omega
  refine rt_ret (flt_P ?_)
  rw [ho]
  refine ifP_of (fun h1 => ?_) (fun h1 => ?_)
  · have h1 : M < 4503599627370496 := of_decide_eq_true h1
    have e : P = -1074 := by rcases c.nr with h | h <;> omega
    subst e
    have lg : M.log2 < 52 := (Nat.log2_lt hM).2 (by simpa using h1)
    obtain ⟨N, P1, cN, hv, hN⟩ := can_ex (p := -1022) hM (by omega) (by omega) (by omega)
    have hnr : 4503599627370496 ≤ N := by
      rcases cN.nr with h | h
      · exact h
      · rw [h] at hv
        have := (vE_le (by omega) (by omega)).1 hv
        rw [this]
        show 4503599627370496 ≤ M * 2 ^ 52
        omega
    have cc : Can 4503599627370496 0 := ⟨by omega, by omega, by omega, .inl (by omega)⟩
    have hm := mul_can (t := false) (c.read (s := s)) cc.read cN hN (by omega) (by
      rw [hv, Int.add_zero]
      refine Eq.symm ?_
      have := (vE_le (a := M * 4503599627370496) (b := M) (i := -1074) (j := -1022) (by omega) (by omega)).2 rfl
      exact this.symm)
    rw [Bool.xor_false] at hm
    refine fmul_P hm ⟨N, P1, -52, rfl, ⟨cN, hnr, .inr rfl, ?_⟩, rfl⟩
    have := cN.lo
    exact vE_shift (e := -52) (by omega) (by omega) (by omega) (by omega) hv
  · have h1 : ¬ M < 4503599627370496 := of_decide_eq_false h1
    exact ⟨M, P, 0, rfl, ⟨c, by omega, .inl rfl, by rw [Int.add_zero]⟩, rfl⟩
theorem infB_num (c : Can M P) : infB (wd s (rg M P)) = false := by
  have := c.rg_lt
  unfold infB; rw [wd_mod (by omega)]; exact decide_eq_false (by omega)
theorem nanB_num (c : Can M P) : nanB (wd s (rg M P)) = false := by
  have := c.rg_lt
  unfold nanB; rw [wd_mod (by omega)]; exact decide_eq_false (by omega)
theorem Frexp_T (c : Can M P) (hM : M ≠ 0) : T Tryz.prog F.math_Frexp [flo (wd s (rg M P))] h fun x h' => ∃ (N : Nat) (Q : Int), x = .ret (.tuple ⟨[flo (wd s (rg N (-53))), .int .i64 (Q + 53)]⟩) ∧ 4503599627370496 ≤ N ∧ N < 9007199254740992 ∧ vE N Q = vE M P ∧ -1126 ≤ Q ∧ Q ≤ 971 ∧ h' = h := by
  have hb : wd s (rg M P) < 18446744073709551616 := wd_lt (by have := c.rg_lt; omega)
  refine E_math_Frexp ?_
  unfold B_math_Frexp
  refine T.mono (E_math_frexp ?_) (R := fun x h' => ∃ (N : Nat) (Q : Int), x = .ret (.tuple ⟨[flo (wd s (rg N (-53))), .int .i64 (Q + 53)]⟩) ∧ 4503599627370496 ≤ N ∧ N < 9007199254740992 ∧ vE N Q = vE M P ∧ -1126 ≤ Q ∧ Q ≤ 971 ∧ h' = h) ?_
  rotate_left
  · rintro _ h' ⟨N, Q, rfl, k⟩
    exact rt_ret ⟨_, _, rfl, N, Q, rfl, k⟩
  unfold B_math_frexp
  refine feq_P ?_
  rw [order_0 c.read]
  refine ifP_of (fun h => absurd (of_decide_eq_true h) hM) (fun _ => ?_)
  refine (IsInf_T hb).mono ?_
  rintro _ _ ⟨rfl, rfl⟩
  rw [infB_num c]
  refine rt_ret ⟨_, rfl, ifP_of (fun h => by cases h) (fun _ => (IsNaN_T hb).mono ?_)⟩
  rintro _ _ ⟨rfl, rfl⟩
  rw [nanB_num c]
  refine rt_ret ⟨_, rfl, ifP_of (fun h => by cases h) (fun _ => (normalize_T c hM).mono ?_)⟩
  rintro _ _ ⟨N, P1, e0, rfl, n, rfl⟩
  have nlo := n.can.lo
  have nhi := n.can.hi
  have nlt := n.can.lt
  have nnr := n.nr
  refine rt_ret ⟨_, _, rfl, fbits_P ⟨_, rfl, by omega, ?_⟩⟩
  have es := rg_split nlo nnr
  have hE : (P1 + 1075).toNat < 2048 := by omega
  have hF : N - 4503599627370496 < 4503599627370496 := by omega
  have hw : wd s (rg N P1) < 18446744073709551616 := wd_lt (by have := n.can.rg_lt; omega)
  have hw2 : wd s (N - 4503599627370496) < 18446744073709551616 := wd_lt (by omega)
  have hq : wd s (rg N P1) / 4503599627370496 < 18446744073709551616 := by omega
  have ex : bitsI .and .u64 ((wd s (rg N P1) / 4503599627370496 : Nat) : Int) 2047 = (((P1 + 1075).toNat : Nat) : Int) := by
    rw [show (2047 : Int) = ((2047 : Nat) : Int) from rfl, (bits_nat (k := .and) hq (by omega)).1, es, exp_of hE hF]
  have fx : bitsI .andNot .u64 ((wd s (rg N P1) : Nat) : Int) 9218868437227405312 = ((wd s (N - 4503599627370496) : Nat) : Int) := by
    rw [show (9218868437227405312 : Int) = ((9218868437227405312 : Nat) : Int) from rfl, (bits_nat (k := .and) hw (by omega)).2.2, es, frac_bits hE hF]
  have gx : bitsI .or .u64 ((wd s (N - 4503599627370496) : Nat) : Int) 4602678819172646912 = ((wd s (rg N (-53)) : Nat) : Int) := by
    rw [show (4602678819172646912 : Int) = ((1022 * 4503599627370496 : Nat) : Int) from rfl, (bits_nat (k := .and) hw2 (by omega)).2.1, exp_bits (by omega) hF]
    rw [rg_split (by omega) nnr]
    rfl
  rw [fdiv52, ex, fx, gx]
  refine fromb_P ⟨N, P1 + e0, ?_, nnr, nlt, n.v, by rcases n.ez with h | h <;> omega, by rcases n.ez with h | h <;> omega, rfl⟩
  have w1 : IntKind.i64.wrap (((P1 + 1075).toNat : Nat) : Int) = P1 + 1075 := by rw [wi64 (by omega) (by omega)]; omega
  have w2 : IntKind.i64.wrap (P1 + 1075 - 1023) = P1 + 52 := by rw [wi64 (by omega) (by omega)]; omega
  have w3 : IntKind.i64.wrap (P1 + 52 + 1) = P1 + 53 := by rw [wi64 (by omega) (by omega)]; omega
  have w4 : IntKind.i64.wrap (e0 + (P1 + 53)) = P1 + e0 + 53 := by rcases n.ez with h | h <;> (rw [wi64 (by omega) (by omega)]; omega)
  rw [w1, w2, w3, w4, Int.toNat_natCast]
/-- What Ldexp comes to. -/
structure LdP (b : Nat) (e : Int) (r : Nat) : Prop where
  lt : r < 18446744073709551616
  z : ∀ s M P, b = wd s (rg M P) → Can M P → M = 0 → r = b
  v : ∀ s M P M2 P2, b = wd s (rg M P) → Can M P → M ≠ 0 → -2200 ≤ e → e ≤ 2200 → Can M2 P2 → vE M2 P2 = vE M (P + e) → r = wd s (rg M2 P2)
  i : infB b = true → r = b
  n : nanB b = true → r = b
theorem wd_inj {s t : Bool} {a b : Nat} (ha : a < 9223372036854775808) (hb : b < 9223372036854775808) (h : wd s a = wd t b) : s = t ∧ a = b := by
  unfold wd at h
  cases s <;> cases t <;> simp at h <;> first | exact ⟨rfl, h⟩ | omega
theorem can_inj {M2 : Nat} {P2 : Int} (a : Can M P) (b : Can M2 P2) (h : rg M P = rg M2 P2) : M = M2 ∧ P = P2 := by
  have h1 := a.read (s := false)
  rw [h, b.read] at h1
  cases h1
  exact ⟨rfl, rfl⟩
theorem Copysign_T {a b : Nat} (ha : a < 18446744073709551616) (hb : b < 18446744073709551616) : T Tryz.prog F.math_Copysign [flo a, flo b] h fun x h' => ∃ r, r < 18446744073709551616 ∧ x = .ret (flo r) ∧ h' = h := by
  refine E_math_Copysign ?_
  unfold B_math_Copysign
  refine fbits_P ⟨_, rfl, fbits_P ⟨_, rfl, ?_⟩⟩
  have l3 : a &&& (18446744073709551615 - 9223372036854775808) < 2 ^ 64 := Nat.and_lt_two_pow _ (by omega)
  have l1 : b &&& 9223372036854775808 < 2 ^ 64 := Nat.and_lt_two_pow _ (by omega)
  rw [show (9223372036854775808 : Int) = ((9223372036854775808 : Nat) : Int) from rfl, (bits_nat (k := .and) ha (by omega)).2.2, (bits_nat (k := .and) hb (by omega)).1, (bits_nat (k := .and) l3 l1).2.1]
  exact fromb_P ⟨_, Nat.or_lt_two_pow l3 l1, by rw [Int.toNat_natCast], rfl⟩
theorem Inf_T (k : Int) : T Tryz.prog F.math_Inf [.int .i64 k] h fun x h' => ∃ r, r < 18446744073709551616 ∧ x = .ret (flo r) ∧ h' = h := by
  refine E_math_Inf ?_
  unfold B_math_Inf
  exact ifP_of (fun _ => fromb_P ⟨_, by decide, rfl, rfl⟩) (fun _ => fromb_P ⟨_, by decide, rfl, rfl⟩)
theorem ldexp_T {b : Nat} (hb : b < 18446744073709551616) {e : Int} (he : -9223372036854775808 ≤ e ∧ e ≤ 9223372036854775807) : T Tryz.prog F.math_Ldexp [flo b, .int .i64 e] h fun x h' => ∃ r, x = .ret (flo r) ∧ LdP b e r ∧ h' = h := by
  refine E_math_Ldexp ?_
  unfold B_math_Ldexp
  refine T.mono (E_math_ldexp ?_) (R := fun x h' => ∃ r, x = .ret (flo r) ∧ LdP b e r ∧ h' = h) ?_
  rotate_left
  · rintro _ h' ⟨r, rfl, k⟩
    exact rt_ret ⟨_, rfl, k⟩
  unfold B_math_ldexp
  refine feq_P ?_
  have num : ∀ {s M P}, Can M P → b = wd s (rg M P) → ∀ {t N Q}, b = wd t (rg N Q) → Can N Q → s = t ∧ M = N ∧ P = Q := fun {s M P} c e1 {t N Q} e2 d => by
    have l1 := c.rg_lt
    have l2 := d.rg_lt
    obtain ⟨a, b⟩ := wd_inj (by omega) (by omega) (e1.symm.trans e2)
    exact ⟨a, can_inj c d b⟩
  rcases Kd.of hb with ⟨c⟩ | _ | ⟨h1, h2⟩
  rotate_left
  · -- infinite
    rename_i s
    rw [order_inf0 read_inf]
    refine (IsInf_T hb).mono ?_
    rintro _ _ ⟨rfl, rfl⟩
    have hi : infB (wd s 9218868437227405312) = true := by unfold infB; rw [wd_mod (by omega)]; rfl
    rw [hi]
    refine rt_ret ⟨_, rfl, ifP_of (fun _ => ⟨_, rfl, ⟨hb, fun _ _ _ _ _ _ => rfl, fun t N Q _ _ e2 d _ _ _ _ _ => ?_, fun _ => rfl, fun _ => rfl⟩, rfl⟩) (fun h => by cases h)⟩
    have l := d.rg_lt
    have := (wd_inj (by omega) (by omega) e2).2
    omega
  · rename_i s r
    rw [show (Ieee.double.order (wd s r) 0 == some .eq) = false by rw [order_nan (read_nan h1 h2)]; rfl]
    refine (IsInf_T hb).mono ?_
    rintro _ _ ⟨rfl, rfl⟩
    have hi : infB (wd s r) = false := by unfold infB; rw [wd_mod h2]; exact decide_eq_false (by omega)
    have hn : nanB (wd s r) = true := by unfold nanB; rw [wd_mod h2]; exact decide_eq_true h1
    rw [hi]
    refine rt_ret ⟨_, rfl, ifP_of (fun h => by cases h) (fun _ => (IsNaN_T hb).mono ?_)⟩
    rintro _ _ ⟨rfl, rfl⟩
    rw [hn]
    refine rt_ret ⟨_, rfl, ifP_of (fun _ => ⟨_, rfl, ⟨hb, fun _ _ _ _ _ _ => rfl, fun t N Q _ _ e2 d _ _ _ _ _ => ?_, fun _ => rfl, fun _ => rfl⟩, rfl⟩) (fun h => by cases h)⟩
    have l := d.rg_lt
    have := (wd_inj (by omega) (by omega) e2).2
    omega
  rename_i s M P
  have notI := infB_num (s := s) c
  have notN := nanB_num (s := s) c
  rw [order_0 c.read]
  refine ifP_of (fun h0 => ?_) (fun h0 => ?_)
  · have h0 := of_decide_eq_true h0
    exact ⟨_, rfl, ⟨hb, fun _ _ _ _ _ _ => rfl, fun t N Q _ _ e2 d hN _ _ _ _ => absurd ((num c rfl e2 d).2.1.symm.trans h0) hN, fun _ => rfl, fun _ => rfl⟩, rfl⟩
  have hM : M ≠ 0 := of_decide_eq_false h0
  -- what is to be shown of the rest
  have fin : ∀ r, r < 18446744073709551616 → (∀ M2 P2, -2200 ≤ e → e ≤ 2200 → Can M2 P2 → vE M2 P2 = vE M (P + e) → r = wd s (rg M2 P2)) → LdP (wd s (rg M P)) e r := fun r hr k =>
    ⟨hr, fun t N Q e2 d hN => absurd ((num c rfl e2 d).2.1.trans hN) hM, fun t N Q M2 P2 e2 d hN a1 a2 a3 a4 => by
      obtain ⟨rfl, rfl, rfl⟩ := num c rfl e2 d
      exact k M2 P2 a1 a2 a3 a4, fun h => (by rw [notI] at h; cases h), fun h => (by rw [notN] at h; cases h)⟩
  refine (IsInf_T hb).mono ?_
  rintro _ _ ⟨rfl, rfl⟩
  rw [notI]
  refine rt_ret ⟨_, rfl, ifP_of (fun h => by cases h) (fun _ => (IsNaN_T hb).mono ?_)⟩
  rintro _ _ ⟨rfl, rfl⟩
  rw [notN]
  refine rt_ret ⟨_, rfl, ifP_of (fun h => by cases h) (fun _ => (normalize_T c hM).mono ?_)⟩
  rintro _ h2 ⟨N, P1, e0, rfl, n, rfl⟩
  have clo := c.lo
  have chi := c.hi
  have nlo := n.can.lo
  have nhi := n.can.hi
  have nlt := n.can.lt
  have nnr := n.nr
  have nv := n.v
  have n0 : N ≠ 0 := by omega
  have ne0 := n.ez
  have nrl := n.can.rg_lt
  have hw : wd s (rg N P1) < 18446744073709551616 := wd_lt (by omega)
  refine rt_ret ⟨_, _, rfl, fbits_P ⟨_, rfl, by omega, ?_⟩⟩
  have es := rg_split nlo nnr
  have hE : (P1 + 1075).toNat < 2048 := by omega
  have hF : N - 4503599627370496 < 4503599627370496 := by omega
  have hw2 : wd s (N - 4503599627370496) < 18446744073709551616 := wd_lt (by omega)
  have hq : wd s (rg N P1) / 4503599627370496 < 9223372036854775808 := by omega
  have ex : bitsI .and .i64 (IntKind.i64.wrap ((wd s (rg N P1) / 4503599627370496 : Nat) : Int)) 2047 = (((P1 + 1075).toNat : Nat) : Int) := by
    rw [wi64 (by omega) (by omega), show (2047 : Int) = ((2047 : Nat) : Int) from rfl, bits_i64 hq (by omega), es, exp_of hE hF]
  have fx : bitsI .andNot .u64 ((wd s (rg N P1) : Nat) : Int) 9218868437227405312 = ((wd s (N - 4503599627370496) : Nat) : Int) := by
    rw [show (9218868437227405312 : Int) = ((9218868437227405312 : Nat) : Int) from rfl, (bits_nat (k := .and) hw (by omega)).2.2, es, frac_bits hE hF]
  have w1 : IntKind.i64.wrap ((((P1 + 1075).toNat : Nat) : Int) - 1023) = P1 + 52 := by rw [wi64 (by omega) (by omega)]; omega
  rw [fdiv52, ex, w1]
  -- the exponent of what comes out
  have hL : -2200 ≤ e → e ≤ 2200 → IntKind.i64.wrap (IntKind.i64.wrap (e + e0) + (P1 + 52)) = P1 + e0 + e + 52 := fun a b => by
    have : IntKind.i64.wrap (e + e0) = e + e0 := w64_in (by rcases ne0 with h | h <;> omega) (by rcases ne0 with h | h <;> omega)
    rw [this, wi64 (by rcases ne0 with h | h <;> omega) (by rcases ne0 with h | h <;> omega)]
    omega
  generalize hLL : IntKind.i64.wrap (IntKind.i64.wrap (e + e0) + (P1 + 52)) = L at *
  have hlog : N.log2 = 52 := (Nat.log2_eq_iff n0).2 ⟨by simpa using nnr, by simpa using nlt⟩
  -- exactly
  have exact_ : ∀ M2 P2, -2200 ≤ e → e ≤ 2200 → Can M2 P2 → vE M2 P2 = vE M (P + e) → M2 ≠ 0 ∧ vE M2 P2 = vE N (L - 52) ∧ -1074 ≤ L ∧ L ≤ 1023 := fun M2 P2 a1 a2 a3 a4 => by
    have hL := hL a1 a2
    have a3l := a3.lo
    have a3h := a3.hi
    have v1 : vE N (P1 + e0 + e) = vE M (P + e) := vE_shift (by rcases ne0 with h | h <;> omega) (by omega) (by rcases ne0 with h | h <;> omega) (by omega) nv
    have hM2 : M2 ≠ 0 := by
      rintro rfl
      exact vE_ne (i := P + e) hM (by rw [← a4]; simp [vE])
    have lg := vE_log (by omega) (by rcases ne0 with h | h <;> omega) n0 (a4.trans v1.symm)
    have h53 : M2.log2 < 53 := (Nat.log2_lt hM2).2 (by have := a3.lt; simpa using this)
    refine ⟨hM2, ?_, by omega, by omega⟩
    rw [a4, ← v1, show P1 + e0 + e = L - 52 by omega]
  refine ifP_of (fun h3 => ?_) (fun h3 => ifP_of (fun h4 => ?_) (fun h4 => ?_))
  · have h3 := of_decide_eq_true h3
    refine (Copysign_T (by omega) hw).mono ?_
    rintro _ _ ⟨r, hr, rfl, rfl⟩
    exact rt_ret ⟨r, rfl, fin r hr fun M2 P2 a1 a2 a3 a4 => by have := (exact_ M2 P2 a1 a2 a3 a4).2.2; omega, rfl⟩
  · have h4 := of_decide_eq_true h4
    refine flt_P ?_
    have big : ∀ r, r < 18446744073709551616 → LdP (wd s (rg M P)) e r := fun r hr => fin r hr fun M2 P2 a1 a2 a3 a4 => by have := (exact_ M2 P2 a1 a2 a3 a4).2.2; omega
    refine ifP_of (fun _ => ?_) (fun _ => ?_)
    · refine (Inf_T _).mono ?_
      rintro _ _ ⟨r, hr, rfl, rfl⟩
      exact rt_ret ⟨r, rfl, big r hr, rfl⟩
    · refine (Inf_T _).mono ?_
      rintro _ _ ⟨r, hr, rfl, rfl⟩
      exact rt_ret ⟨r, rfl, big r hr, rfl⟩
  have h3 := of_decide_eq_false h3
  have h4 := of_decide_eq_false h4
  -- the last step
  refine ⟨fun p g => g = h2 ∧ ∃ (X j : Int) (m : Nat), p.1 = X ∧ p.2.1 = flo (wd false (rg m j)) ∧ Can m j ∧ m = 4503599627370496 ∧ -1022 ≤ X ∧ X ≤ 1023 ∧ -200 ≤ j ∧ X + j + 52 = L ∧ j ≤ 0, ?_, ?_⟩
  · refine ifP_of (fun h5 => ?_) (fun h5 => ?_)
    · have h5 := of_decide_eq_true h5
      refine ⟨rfl, L + 53, -105, 4503599627370496, ?_, rfl, ⟨by omega, by omega, by omega, .inl (by omega)⟩, rfl, by omega, by omega, by omega, by omega, by omega⟩
      exact w64_in (by omega) (by omega)
    · have h5 := of_decide_eq_false h5
      exact ⟨rfl, L, -52, 4503599627370496, rfl, rfl, ⟨by omega, by omega, by omega, .inl (by omega)⟩, rfl, by omega, by omega, by omega, by omega, by omega⟩
  rintro xp mv g ⟨rfl, X, j, m, e1, e2, cm, rfl, x1, x2, j1, j2, j3⟩
  change xp = X at e1
  change mv = _ at e2
  subst e1 e2
  refine ⟨by omega, ?_⟩
  have w5 : IntKind.u64.wrap ((IntKind.u64.wrap (IntKind.i64.wrap (xp + 1023))) * 2 ^ (min (52 : Int).toNat 64)) = (((xp + 1023).toNat * 4503599627370496 : Nat) : Int) := by
    have q1 : IntKind.i64.wrap (xp + 1023) = (((xp + 1023).toNat : Nat) : Int) := by rw [wi64 (by omega) (by omega)]; omega
    rw [q1, wu64 (by omega), show ((2 : Int) ^ (min (52 : Int).toNat 64)) = 4503599627370496 from rfl]
    have : (((xp + 1023).toNat : Nat) : Int) * 4503599627370496 = (((xp + 1023).toNat * 4503599627370496 : Nat) : Int) := by simp
    rw [this, wu64 (by omega)]
  have c3 : Can N (xp - 52) := ⟨nlt, by omega, by omega, .inl nnr⟩
  have gx : bitsI .or .u64 ((wd s (N - 4503599627370496) : Nat) : Int) (((xp + 1023).toNat * 4503599627370496 : Nat) : Int) = ((wd s (rg N (xp - 52)) : Nat) : Int) := by
    rw [(bits_nat (k := .and) hw2 (by omega)).2.1, exp_bits (by omega) hF, rg_split (by omega) nnr, show xp - 52 + 1075 = xp + 1023 by omega]
  rw [w5, fx, gx]
  refine fromb_P ?_
  rw [Int.toNat_natCast]
  obtain ⟨r, hr⟩ := mul_some (cm.read (s := false)) (c3.read (s := s))
  refine fmul_P hr ⟨r, rfl, fin r ?_ fun M2 P2 a1 a2 a3 a4 => ?_, rfl⟩
  · have := Ieee.Format.mul_lt Ieee.double hr
    exact this
  · obtain ⟨hM2, q1, q2, q3⟩ := exact_ M2 P2 a1 a2 a3 a4
    have hm := mul_can (cm.read (s := false)) (c3.read (s := s)) a3 hM2 (by omega) (by
      rw [q1]
      have : L - 52 = j + (xp - 52) + 52 := by omega
      rw [this]
      refine (vE_le (by omega) (by omega)).2 ?_
      rw [show j + (xp - 52) + 52 - (j + (xp - 52)) = 52 by omega]
      show 4503599627370496 * N = N * 2 ^ 52
      omega)
    rw [hr] at hm
    rw [Option.some.inj hm, Bool.false_xor]
end

end Go.Proofs.YtjlojokockfapaaGreatDoor

namespace Go.Proofs.YtjlojokockfapaaGreatDoor
open Go
set_option linter.unusedVariables false
set_option linter.unusedSimpArgs false
set_option maxRecDepth 100000

/-- The table of TrailingZeros64, where the program has it. -/
def Tab (h : H) : Prop := ∀ j, j < 64 → hcell h ⟨1, j, none⟩ = some (.int .u8 (Lib.deBruijn64tab.getD j 0 : Nat))
theorem odd_uniq {i j m n : Nat} (h : 2 ^ i * (2 * m + 1) = 2 ^ j * (2 * n + 1)) : i = j ∧ m = n := by
  have key : ∀ {i j m n : Nat}, 2 ^ i * (2 * m + 1) = 2 ^ j * (2 * n + 1) → i ≤ j → i = j ∧ m = n := by
    intro i j m n h hij
    obtain ⟨d, rfl⟩ : ∃ d, j = i + d := ⟨j - i, by omega⟩
    rw [Nat.pow_add, Nat.mul_assoc] at h
    have h := Nat.mul_left_cancel (Nat.two_pow_pos i) h
    cases d with
    | zero => simp at h; exact ⟨rfl, by omega⟩
    | succ d => rw [Nat.pow_succ, Nat.mul_comm (2 ^ d) 2, Nat.mul_assoc] at h; omega
  by_cases hij : i ≤ j
  · exact key h hij
  · obtain ⟨a, b⟩ := key h.symm (by omega)
    exact ⟨a.symm, b.symm⟩
/-- The same number of zeros below the other way round. -/
theorem ctz_neg {N : Nat} (h0 : N ≠ 0) (h1 : N < 9007199254740992) : Lib.ctz 64 (18446744073709551616 - N) = Lib.ctz 64 N := by
  obtain ⟨m, e1, k1⟩ := Lib.ctzFrom_spec 64 N (by omega) (by omega)
  obtain ⟨n, e2, k2⟩ := Lib.ctzFrom_spec 64 (18446744073709551616 - N) (by omega) (by omega)
  have c1 : Lib.ctz 64 N = Lib.ctzFrom 64 N := by simp [Lib.ctz, h0]
  have c2 : Lib.ctz 64 (18446744073709551616 - N) = Lib.ctzFrom 64 (18446744073709551616 - N) := by unfold Lib.ctz; rw [if_neg (by omega)]
  rw [c1, c2]
  generalize Lib.ctzFrom 64 N = j at *
  generalize Lib.ctzFrom 64 (18446744073709551616 - N) = k at *
  obtain ⟨d, hd⟩ : ∃ d, 64 = j + (d + 1) := ⟨63 - j, by omega⟩
  have e3 : (18446744073709551616 : Nat) = 2 ^ j * (2 * 2 ^ d) := by
    rw [show (18446744073709551616 : Nat) = 2 ^ 64 from rfl, hd, Nat.pow_add, Nat.pow_succ, Nat.mul_comm (2 ^ d) 2]
  have hlt : 2 * m + 1 < 2 * 2 ^ d := by
    have : 2 ^ j * (2 * m + 1) < 2 ^ j * (2 * 2 ^ d) := by rw [← e1, ← e3]; omega
    exact Nat.lt_of_mul_lt_mul_left this
  have e4 : 18446744073709551616 - N = 2 ^ j * (2 * (2 ^ d - m - 1) + 1) := by
    have : 2 ^ j * (2 * (2 ^ d - m - 1) + 1) = 2 ^ j * (2 * 2 ^ d) - 2 ^ j * (2 * m + 1) := by
      rw [← Nat.mul_sub]; congr 1; omega
    rw [this, ← e3, ← e1]
  exact (odd_uniq (e2.symm.trans e4)).1
section
variable {h : H} {s : Bool} {M N : Nat} {P Q : Int}
theorem Tz_T (tb : Tab h) {x : Nat} (hx : x ≠ 0) (h64 : x < 18446744073709551616) : T Tryz.prog F.bits_TrailingZeros64 [.int .u64 (x : Int)] h fun r h' => r = .ret (.int .i64 (Lib.ctz 64 x : Nat)) ∧ h' = h := by
  refine E_bits_TrailingZeros64 ?_
  unfold B_bits_TrailingZeros64
  refine ifP_of (fun h => by have := of_decide_eq_true h; omega) (fun _ => ⟨by omega, ?_⟩)
  obtain ⟨hlow, hk⟩ := Lib.lowest_bit 64 x hx h64
  obtain ⟨hi, htab⟩ := Lib.deBruijn64_at _ hk
  have e1 : IntKind.u64.wrap (0 - (x : Int)) = ((18446744073709551616 - x : Nat) : Int) := by
    show (0 - (x : Int)) % 18446744073709551616 = _
    omega
  have e2 : bitsI .and .u64 (x : Int) ((18446744073709551616 - x : Nat) : Int) = ((2 ^ Lib.ctz 64 x : Nat) : Int) := by
    rw [(bits_nat (k := .and) h64 (by omega)).1]
    exact congrArg _ hlow
  rw [e1, e2]
  generalize Lib.ctz 64 x = k at *
  have e3 : (IntKind.u64.wrap (((2 ^ k : Nat) : Int) * 285870213051353865)).fdiv (2 ^ (min (58 : Int).toNat 64)) = ((2 ^ k * 285870213051353865 % 18446744073709551616 / 288230376151711744 : Nat) : Int) := by
    rw [show ((2 : Int) ^ (min (58 : Int).toNat 64)) = 288230376151711744 from rfl]
    have : IntKind.u64.wrap (((2 ^ k : Nat) : Int) * 285870213051353865) = ((2 ^ k * 285870213051353865 % 18446744073709551616 : Nat) : Int) := by
      show (((2 ^ k : Nat) : Int) * 285870213051353865) % 18446744073709551616 = _
      generalize 2 ^ k = y
      omega
    rw [this, Int.fdiv_eq_ediv_of_nonneg _ (by omega)]
    generalize 2 ^ k * 285870213051353865 % 18446744073709551616 = y
    omega
  rw [e3]
  have tc := tb _ hi
  rw [htab] at tc
  generalize 2 ^ k * 285870213051353865 % 18446744073709551616 / 288230376151711744 = y at *
  refine ⟨by omega, by omega, (k : Int), ?_, ?_⟩
  · rw [Int.toNat_natCast, Nat.mul_one]
    have : (⟨1, 0, none⟩ : Addr).add y = ⟨1, y, none⟩ := by
      by_cases e : y = 0
      · subst e; rfl
      · unfold Addr.add; rw [if_neg e]; simp
    rw [this]; exact tc
  · exact ⟨by rw [wi64 (by omega) (by omega)], rfl⟩
theorem u9 : Tryz.prog.underlying 9 = some .string := by kernel_rfl
/-- No number of at most 53 bits has more. -/
theorem Len64_T {x : Nat} (h53 : x < 9007199254740992) : T Tryz.prog F.bits_Len64 [.int .u64 (x : Int)] h fun r h' => ∃ n : Int, r = .ret (.int .i64 n) ∧ 0 ≤ n ∧ n ≤ 53 ∧ h' = h := by
  refine E_bits_Len64 ?_
  unfold B_bits_Len64
  refine ⟨fun p g => g = h ∧ ∃ y : Nat, p.1 = y ∧ (p.2.1 = 32 ∧ y < 2097152 ∨ p.2.1 = 0 ∧ y < 4294967296), ?_, ?_⟩
  · refine ifP_of (fun h1 => ?_) (fun h1 => ?_)
    · refine ⟨by omega, rfl, x / 4294967296, ?_, .inl ⟨rfl, by omega⟩⟩
      show (x : Int).fdiv (2 ^ (min (32 : Int).toNat 64)) = _
      rw [show ((2 : Int) ^ (min (32 : Int).toNat 64)) = 4294967296 from rfl, Int.fdiv_eq_ediv_of_nonneg _ (by omega)]; omega
    · have := of_decide_eq_false h1
      exact ⟨rfl, x, rfl, .inr ⟨rfl, by omega⟩⟩
  rintro x3 n4 g ⟨rfl, y, e1, hy⟩
  change x3 = (y : Int) at e1
  change n4 = 32 ∧ _ ∨ n4 = 0 ∧ _ at hy
  subst e1
  refine ⟨fun p q => q = g ∧ ∃ z : Nat, p.1 = z ∧ (p.2.1 = 48 ∧ z < 32 ∨ 0 ≤ p.2.1 ∧ p.2.1 ≤ 32 ∧ z < 65536), ?_, ?_⟩
  · refine ifP_of (fun h1 => ?_) (fun h1 => ?_)
    · refine ⟨by omega, rfl, y / 65536, ?_, ?_⟩
      · show (y : Int).fdiv (2 ^ (min (16 : Int).toNat 64)) = _
        rw [show ((2 : Int) ^ (min (16 : Int).toNat 64)) = 65536 from rfl, Int.fdiv_eq_ediv_of_nonneg _ (by omega)]; omega
      · show IntKind.i64.wrap (n4 + 16) = 48 ∧ _ ∨ 0 ≤ IntKind.i64.wrap (n4 + 16) ∧ IntKind.i64.wrap (n4 + 16) ≤ 32 ∧ _
        rw [wi64 (by omega) (by omega)]; omega
    · have := of_decide_eq_false h1
      refine ⟨rfl, y, rfl, .inr ?_⟩
      show 0 ≤ n4 ∧ n4 ≤ 32 ∧ _
      omega
  rintro x7 n8 g2 ⟨rfl, z, e1, hz⟩
  change x7 = (z : Int) at e1
  change n8 = 48 ∧ _ ∨ 0 ≤ n8 ∧ n8 ≤ 32 ∧ _ at hz
  subst e1
  refine ⟨fun p q => q = g2 ∧ ∃ u : Nat, p.1 = u ∧ (p.2.1 = 48 ∧ u < 32 ∨ 0 ≤ p.2.1 ∧ p.2.1 ≤ 40 ∧ u < 256), ?_, ?_⟩
  · refine ifP_of (fun h1 => ?_) (fun h1 => ?_)
    · refine ⟨by omega, rfl, z / 256, ?_, ?_⟩
      · show (z : Int).fdiv (2 ^ (min (8 : Int).toNat 64)) = _
        rw [show ((2 : Int) ^ (min (8 : Int).toNat 64)) = 256 from rfl, Int.fdiv_eq_ediv_of_nonneg _ (by omega)]; omega
      · have := of_decide_eq_true h1
        show IntKind.i64.wrap (n8 + 8) = 48 ∧ _ ∨ 0 ≤ IntKind.i64.wrap (n8 + 8) ∧ IntKind.i64.wrap (n8 + 8) ≤ 40 ∧ _
        rw [wi64 (by omega) (by omega)]; omega
    · have := of_decide_eq_false h1
      refine ⟨rfl, z, rfl, ?_⟩
      show n8 = 48 ∧ _ ∨ 0 ≤ n8 ∧ n8 ≤ 40 ∧ _
      omega
  rintro x11 n12 g3 ⟨rfl, u, e1, hu⟩
  change x11 = (u : Int) at e1
  change n12 = 48 ∧ _ ∨ 0 ≤ n12 ∧ n12 ≤ 40 ∧ _ at hu
  subst e1
  have hu8 : IntKind.u8.wrap (u : Int) = u := by show (u : Int) % 256 = u; omega
  rw [hu8]
  unfold indexP
  rw [u9]
  generalize hb : (⟨#[0, 1, 2, 2, 3, 3, 3, 3, 4, 4, 4, 4, 4, 4, 4, 4, 5, 5, 5, 5, 5, 5, 5, 5, 5, 5, 5, 5, 5, 5, 5, 5, 6, 6, 6, 6, 6, 6, 6, 6, 6, 6, 6, 6, 6, 6, 6, 6, 6, 6, 6, 6, 6, 6, 6, 6, 6, 6, 6, 6, 6, 6, 6, 6, 7, 7, 7, 7, 7, 7, 7, 7, 7, 7, 7, 7, 7, 7, 7, 7, 7, 7, 7, 7, 7, 7, 7, 7, 7, 7, 7, 7, 7, 7, 7, 7, 7, 7, 7, 7, 7, 7, 7, 7, 7, 7, 7, 7, 7, 7, 7, 7, 7, 7, 7, 7, 7, 7, 7, 7, 7, 7, 7, 7, 7, 7, 7, 7, 8, 8, 8, 8, 8, 8, 8, 8, 8, 8, 8, 8, 8, 8, 8, 8, 8, 8, 8, 8, 8, 8, 8, 8, 8, 8, 8, 8, 8, 8, 8, 8, 8, 8, 8, 8, 8, 8, 8, 8, 8, 8, 8, 8, 8, 8, 8, 8, 8, 8, 8, 8, 8, 8, 8, 8, 8, 8, 8, 8, 8, 8, 8, 8, 8, 8, 8, 8, 8, 8, 8, 8, 8, 8, 8, 8, 8, 8, 8, 8, 8, 8, 8, 8, 8, 8, 8, 8, 8, 8, 8, 8, 8, 8, 8, 8, 8, 8, 8, 8, 8, 8, 8, 8, 8, 8, 8, 8, 8, 8, 8, 8, 8, 8, 8, 8, 8, 8, 8, 8, 8, 8, 8, 8, 8, 8, 8, 8]⟩ : ByteArray) = tb
  have hlook : ∃ b : UInt8, tb[u]? = some b ∧ b.toNat ≤ 8 ∧ (u < 32 → b.toNat ≤ 5) := by
    have all : ((List.range 256).all fun v => match tb[v]? with
        | some b => decide (b.toNat ≤ 8) && (decide (32 ≤ v) || decide (b.toNat ≤ 5))
        | none => false) = true := by subst hb; decide +kernel
    have := List.all_eq_true.1 all u (List.mem_range.2 (by omega))
    split at this
    · rename_i b e
      rw [Bool.and_eq_true, Bool.or_eq_true, decide_eq_true_eq, decide_eq_true_eq, decide_eq_true_eq] at this
      exact ⟨b, e, this.1, fun h => by rcases this.2 with k | k <;> omega⟩
    · cases this
  obtain ⟨b, hb1, hb2, hb3⟩ := hlook
  refine ⟨.int .u8 (b.toNat : Int), fun w _ => ?_, ?_⟩
  · have := run_index_string (P := Tryz.prog) (w := w) 9 tb .u8 (u : Int) u9
    rw [this]
    by_cases hs : u < tb.size
    · rw [getElem?_pos tb u hs] at hb1
      have hb1 := Option.some.inj hb1
      rw [dif_pos ⟨by omega, by omega⟩]
      simp only [Int.toNat_natCast]
      rw [hb1]
    · rw [getElem?_neg tb u hs] at hb1
      cases hb1
  · have : IntKind.i64.wrap (b.toNat : Int) = b.toNat := wi64 (by omega) (by omega)
    show ∃ n, _ = _ ∧ _
    refine ⟨n12 + b.toNat, ?_, by omega, by omega, rfl⟩
    show Res.ret (.int .i64 (IntKind.i64.wrap (n12 + IntKind.i64.wrap (b.toNat : Int)))) = _
    rw [this, wi64 (by omega) (by omega)]
end

end Go.Proofs.YtjlojokockfapaaGreatDoor

