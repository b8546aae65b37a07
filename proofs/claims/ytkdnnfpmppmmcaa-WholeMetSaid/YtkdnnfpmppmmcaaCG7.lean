import Derived.Test.YtkdnnfpmppmmcaaProg
import Derived.Test.YtkdnnfpmppmmcaaCG6
namespace Go.Proofs.Ytkdnnfpmppmmcaa
open Go Go.ChangeShapes Go.WideShapes Go.ChangeAt Go.RowKit
set_option linter.unusedVariables false

theorem own : ownKnob Try.prog.godebug = none := by kernel_rfl
theorem laidOut : laidOutB Try.prog = true := by kernel_rfl

end Go.Proofs.Ytkdnnfpmppmmcaa

namespace Go.Proofs.Ytkdnnfpmppmmcaa
open Go
set_option linter.unusedVariables false
set_option linter.unusedSimpArgs false

/-- The graph of flows. -/
def esC (_ : Nat) : Ed := ⟨0, 1, 2, 1⟩
theorem esC_flow : FlowP 2 1 (frE esC) (toE esC) (cpE esC) 0 1 (fun _ => 2) := ⟨by decide, by decide⟩
theorem esC_max : MaxP 2 1 (frE esC) (toE esC) (cpE esC) 0 1 (fun _ => 2) := by
  refine ⟨esC_flow, fun r => ?_⟩
  have := r.closed (C := fun v => v = 0) rfl (by
    rintro u v rfl ⟨i, hi, h⟩
    rcases h with ⟨h1, h2, h3⟩ | ⟨h1, h2, h3⟩
    · exact absurd h3 (by show ¬ (2 : Int) < 2; decide)
    · exact h2.symm)
  omega
theorem esC_13 : wrong13 2 1 esC 0 1 1 = 0 := by decide
theorem esC_14 : wrong14 2 1 esC 2 (bB 2 (-2)) 1 = 0 := by decide
theorem esC_plan : PlanP 2 1 (frE esC) (toE esC) (cpE esC) (bB 2 (-2)) (fun _ => 2) := ⟨by decide, by decide⟩
section
variable {h : H}
theorem flows_R : T Try.prog F.compasstop_flows [] h fun r h' => r = .ret (.bool true) ∧ Ext h h' := by
  refine E_compasstop_flows ?_
  unfold B_compasstop_flows
  refine ⟨rfl, new_bl ?_⟩
  intro b1 q1 hb1 x1 B1_
  have Gv : Gs q1 (.slice (some (bk b1)) 1 1) 1 esC := by
    refine ⟨_, _, rfl, fun i hi => ⟨_, rfl, fun j v hj => ?_⟩⟩
    rw [bk_add, bk_add2, ← bk_add]
    refine B1_.ld ?_
    match i, hi with
    | 0, _ => match j, hj with
      | 0, hj => exact hj
      | 1, hj => exact hj
      | 2, hj => exact hj
      | 3, hj => exact hj
  refine new_bl_st rfl rfl (by simp [Value.oneCell']) ?_
  intro b3 q5 hb3 x5 B3
  have x15 := x1.trans' x5
  have Gv := Gv.ext x5
  refine B3.ldN rfl ((Solve_T (Gv.gr 2) 0 1 1).mono ?_)
  intro r q6 hA
  obtain ⟨x6, ⟨hw, _⟩ | ⟨_, n', s', t', c1, c2, f, sd, e1, e2, e3, hs, ht, hst, gd, rfl, S⟩⟩ := hA
  · exact absurd esC_13 hw
  have : n' = 2 := by omega
  subst this
  have : s' = 0 := by omega
  subst this
  have : t' = 1 := by omega
  subst this
  have hv : OutF 1 (frE esC) (toE esC) f 0 = 2 := (S.mx.uniq esC_max (by decide) (by omega)).1
  rw [hv]
  refine rt_ret ⟨_, rfl, _, _, rfl, new_bl_st rfl rfl (by simp [Value.oneCell']) ?_⟩
  intro b12 q14 hb12 x14 B12
  have xa := x6.trans' x14
  refine (B3.ext xa).ldN rfl (new_bl ?_)
  intro b16 q17 hb16 x17 B16
  have xb := xa.trans' x17
  refine (MSolve_T ((Gv.ext xb).gr 2) (l := 2) (bf := bB 2 (-2)) B16.rs 1).mono ?_
  rintro _ q19 ⟨x19, hr⟩
  rcases hr with ⟨h, _⟩ | ⟨_, _, gd2, hr⟩
  · exact absurd esC_14 h
  rcases hr with ⟨own, vs, von, vp, f2, p, rfl, bs, P⟩ | ⟨bs, sd2, rfl, _, _, hl⟩
  rotate_left
  · exact absurd hl (esC_plan.none_ gd2)
  have h3 := P.pl.out 0 (by omega)
  change (0 + (f2 0 - 0)) = 2 at h3
  have ht : totC 1 (ckE esC) f2 = 2 := by
    show 0 + 1 * f2 0 = 2; omega
  rw [ht]
  refine rt_ret ⟨_, rfl, _, _, _, rfl, new_bl_st rfl rfl P.one ?_⟩
  intro b24 q25 hb24 x25 B24
  refine ifP_of (fun _ => ifP_of (fun _ => ifP_of (fun _ => ⟨rfl, ((x15.trans' xb).trans' x19).trans' x25⟩) (fun h => by simp at h)) (fun h => by simp at h)) (fun h => by simp at h)
end

end Go.Proofs.Ytkdnnfpmppmmcaa

namespace Go.Proofs.Ytkdnnfpmppmmcaa
open Go
set_option linter.unusedVariables false
set_option linter.unusedSimpArgs false

/-- The code and the cost that Solve answers. -/
def OutC (n : Int) (m : Nat) (es : Nat → Ed) (l : Nat) (bf : Nat → Int) (k : Int) (c e : Int) : Prop :=
  (wrong14 n m es l bf k ≠ 0 ∧ c = 0 ∧ e = wrong14 n m es l bf k) ∨
    (wrong14 n m es l bf k = 0 ∧ ((e = 0 ∧ ∃ f p, PlanP l m (frE es) (toE es) (cpE es) bf f ∧ PotP m (frE es) (toE es) (cpE es) (ckE es) f p ∧ c = totC m (ckE es) f) ∨ (e = 5 ∧ c = 0 ∧ ∀ g, ¬ PlanP l m (frE es) (toE es) (cpE es) bf g)))
theorem SolC.out {h h' : H} {n : Int} {m : Nat} {es : Nat → Ed} {l : Nat} {bf : Nat → Int} {k : Int} {r : Res} (S : SolC h n m es l bf k r h') :
    ∃ pl c sv e, r = .ret (.tuple ⟨[.agg ⟨pl⟩, .int .i64 c, sv, .int .i64 e]⟩) ∧ pl.length = 3 ∧ (∀ v ∈ pl, v.oneCell' = true) ∧ (∃ a l c, sv = .slice a l c) ∧ Ext h h' ∧ OutC n m es l bf k c e := by
  rcases S with ⟨x, ⟨hw, rfl⟩ | ⟨hw, hnl, gd, ⟨own, vs, von, vp, f, p, rfl, bs, P⟩ | ⟨bs, sd, rfl, _, _, hl⟩⟩⟩
  · exact ⟨_, _, _, _, rfl, rfl, plZ_one, ⟨_, _, _, rfl⟩, x, .inl ⟨hw, rfl, rfl⟩⟩
  · exact ⟨_, _, _, _, rfl, rfl, P.one, ⟨_, _, _, rfl⟩, x, .inr ⟨hw, .inl ⟨rfl, f, p, P.pl, P.pt, rfl⟩⟩⟩
  · exact ⟨_, _, _, _, rfl, rfl, plZ_one, ⟨_, _, _, rfl⟩, x, .inr ⟨hw, .inr ⟨rfl, rfl, fun g Pg => Pg.none_ gd hl⟩⟩⟩
section
variable {n : Int} {m l : Nat} {es : Nat → Ed} {bf : Nat → Int} {k c e d f : Int}
theorem OutC.c0 (O : OutC n m es l bf k c e) (h : e ≠ 0) : c = 0 := by
  rcases O with ⟨_, h, _⟩ | ⟨_, ⟨h2, _⟩ | ⟨_, h, _⟩⟩
  · exact h
  · exact absurd h2 h
  · exact h
theorem OutC.ok (O : OutC n m es l bf k c e) (h : e = 0) : wrong14 n m es l bf k = 0 ∧ ∃ f p, PlanP l m (frE es) (toE es) (cpE es) bf f ∧ PotP m (frE es) (toE es) (cpE es) (ckE es) f p ∧ c = totC m (ckE es) f := by
  rcases O with ⟨h1, _, h2⟩ | ⟨h1, ⟨_, h2⟩ | ⟨h2, _⟩⟩
  · rw [h] at h2; exact absurd h2.symm h1
  · exact ⟨h1, h2⟩
  · omega
end
end Go.Proofs.Ytkdnnfpmppmmcaa

namespace Go.Proofs.Ytkdnnfpmppmmcaa
open Go
set_option linter.unusedVariables false
set_option linter.unusedSimpArgs false

theorem wrong14_5 {n : Int} {m : Nat} {es : Nat → Ed} {l : Nat} {bf : Nat → Int} {k : Int} : wrong14 n m es l bf k ≠ 5 := by
  unfold wrong14
  split
  · split
    · split <;> omega
    · omega
  · unfold faultG
    split
    · show (3 : Int) ≠ 5; omega
    · exact badFrom_5

end Go.Proofs.Ytkdnnfpmppmmcaa

namespace Go.Proofs.Ytkdnnfpmppmmcaa
open Go
set_option linter.unusedVariables false
set_option linter.unusedSimpArgs false

/-- The second answer. -/
def Ck (n : Int) (m l : Nat) (es : Nat → Ed) (bf : Nat → Int) (own : Own) (q : H) (pl : List Value) (c e : Int) : Prop :=
  (e ≠ 0 ∧ pl = plZ) ∨ (e = 0 ∧ n = l ∧ Gd l m es ∧ supOK l l bf ∧ ∃ (vs von vp : Value) (f p : Nat → Int), pl = plV vs von vp ∧ c = totC m (ckE es) f ∧
    S1 own q 124 vs (ints l bf) ∧ S1 own q 123 von (ints m f) ∧ S1 own q 107 vp (ints l p) ∧ PlanP l m (frE es) (toE es) (cpE es) bf f ∧ PotP m (frE es) (toE es) (cpE es) (ckE es) f p ∧
    ∀ v, v < l → -1073741824 ≤ p v ∧ p v ≤ 1073741824)
section
variable {n : Int} {m l : Nat} {es : Nat → Ed} {bf : Nat → Int} {own own' : Own} {q q' : H} {pl : List Value} {c e : Int}
theorem Ck.fm {M : List Nat} (B : Ck n m l es bf own q pl c e) (F : Fm M own q own' q') (h8 : 124 ∉ M ∧ 123 ∉ M ∧ 107 ∉ M) : Ck n m l es bf own' q' pl c e := by
  rcases B with B | ⟨a1, a2, a3, a4, vs, von, vp, f, p, a5, a6, k1, k2, k3, a7⟩
  · exact .inl B
  · exact .inr ⟨a1, a2, a3, a4, vs, von, vp, f, p, a5, a6, k1.fm F h8.1, k2.fm F h8.2.1, k3.fm F h8.2.2, a7⟩
theorem Ck.nw {b j : Nat} (B : Ck n m l es bf own q pl c e) (x : Ext q q') (hb : q b = none) : Ck n m l es bf (own1 own b j) q' pl c e :=
  B.fm (M := []) (Fm.new x hb) (by simp)
theorem Ck.one (B : Ck n m l es bf own q pl c e) : pl.length = 3 ∧ ∀ v ∈ pl, v.oneCell' = true := by
  rcases B with ⟨_, rfl⟩ | ⟨a1, a2, a3, a4, vs, von, vp, f, p, rfl, a6, k1, k2, k3, a7⟩
  · exact ⟨rfl, plZ_one⟩
  · refine ⟨rfl, fun v hv => ?_⟩
    simp only [List.mem_cons, List.not_mem_nil, or_false] at hv
    rcases hv with rfl | rfl | rfl
    · exact k1.one
    · exact k2.one
    · exact k3.one
end

end Go.Proofs.Ytkdnnfpmppmmcaa

namespace Go.Proofs.Ytkdnnfpmppmmcaa
open Go
set_option linter.unusedVariables false
set_option linter.unusedSimpArgs false

/-- How many of the first j supply something. -/
def cnB (b : Nat → Int) : Nat → Nat
  | 0 => 0
  | j + 1 => cnB b j + if b j = 0 then 0 else 1
theorem cnB_le (b : Nat → Int) : ∀ j, cnB b j ≤ j
  | 0 => Nat.le_refl _
  | j + 1 => by
    have := cnB_le b j
    show cnB b j + (if b j = 0 then 0 else 1) ≤ j + 1
    split <;> omega
theorem cnB_mono {b : Nat → Int} {j : Nat} : ∀ {k : Nat}, j ≤ k → cnB b j ≤ cnB b k
  | 0, h => by rw [show j = 0 by omega]; exact Nat.le_refl _
  | k + 1, h => by
    by_cases e : j = k + 1
    · rw [e]; exact Nat.le_refl _
    · exact Nat.le_trans (cnB_mono (k := k) (by omega)) (Nat.le_add_right _ _)
theorem cnB_lt {b : Nat → Int} {j k : Nat} (h : j < k) (hb : b j ≠ 0) : cnB b j < cnB b k := by
  have e : cnB b (j + 1) = cnB b j + 1 := by show cnB b j + (if b j = 0 then 0 else 1) = _; rw [if_neg hb]
  have := cnB_mono (b := b) (j := j + 1) (k := k) h
  omega
theorem cnB_inv {b : Nat → Int} : ∀ {n a : Nat}, a < cnB b n → ∃ v, v < n ∧ b v ≠ 0 ∧ cnB b v = a
  | 0, a, h => by change a < 0 at h; omega
  | n + 1, a, h => by
    change a < cnB b n + (if b n = 0 then 0 else 1) at h
    by_cases e : a < cnB b n
    · obtain ⟨v, h1, h2, h3⟩ := cnB_inv e
      exact ⟨v, by omega, h2, h3⟩
    · by_cases e0 : b n = 0
      · rw [if_pos e0] at h; omega
      · rw [if_neg e0] at h; exact ⟨n, by omega, e0, by omega⟩
theorem sum_cnB {b : Nat → Int} {m : Nat} {f : Nat → Int} : ∀ {n : Nat}, sumN (m + cnB b n) f = sumN m f + sumN n fun v => if b v = 0 then 0 else f (m + cnB b v)
  | 0 => by show sumN m f = sumN m f + 0; omega
  | n + 1 => by
    show sumN (m + (cnB b n + if b n = 0 then 0 else 1)) f = sumN m f + (sumN n (fun v => if b v = 0 then 0 else f (m + cnB b v)) + if b n = 0 then 0 else f (m + cnB b n))
    have ih := sum_cnB (b := b) (m := m) (f := f) (n := n)
    by_cases h : b n = 0
    · rw [if_pos h, if_pos h]
      show sumN (m + cnB b n) f = _
      omega
    · rw [if_neg h, if_neg h]
      show sumN (m + cnB b n) f + f (m + cnB b n) = _
      omega
/-- The edge of a node that supplies something. -/
def wmE (n : Nat) (b : Nat → Int) (u : Nat) : Ed := if 0 < b u then ⟨n, u, b u, 0⟩ else ⟨u, (n + 1 : Nat), -b u, 0⟩
/-- The graph with edges from a source and to a sink. -/
structure WmP (n m : Nat) (es : Nat → Ed) (b : Nat → Int) (j : Nat) (ew : Nat → Ed) : Prop where
  lo : ∀ a, a < m → ew a = es a
  hi : ∀ v, v < j → b v ≠ 0 → ew (m + cnB b v) = wmE n b v
section
variable {n m : Nat} {es ew : Nat → Ed} {b f g : Nat → Int}
theorem WmP.zero : WmP n m es b 0 es := ⟨fun _ _ => rfl, fun v hv => by omega⟩
theorem WmP.skip {j : Nat} (W : WmP n m es b j ew) (h : b j = 0) : WmP n m es b (j + 1) ew := ⟨W.lo, fun v hv hb => W.hi v (by
  rcases Nat.lt_or_ge v j with h2 | h2
  · exact h2
  · exact absurd (by rw [show v = j by omega]; exact h) hb) hb⟩
theorem WmP.push {j : Nat} (W : WmP n m es b j ew) (h : b j ≠ 0) : WmP n m es b (j + 1) (fun a => if a = m + cnB b j then wmE n b j else ew a) := by
  refine ⟨fun a ha => ?_, fun v hv hb => ?_⟩
  · show (if a = m + cnB b j then _ else _) = _
    rw [if_neg (by omega)]; exact W.lo a ha
  · show (if m + cnB b v = m + cnB b j then _ else _) = _
    by_cases e : v = j
    · subst e; rw [if_pos rfl]
    · have := cnB_lt (b := b) (j := v) (k := j) (by omega) hb
      rw [if_neg (by omega)]; exact W.hi v (by omega) hb
/-- The same amounts with an edge at every node. -/
def upW (m : Nat) (b f : Nat → Int) (a : Nat) : Int := if a < m then f a else if b (a - m) = 0 then 0 else f (m + cnB b (a - m))
theorem upW_lo {a : Nat} (h : a < m) : upW m b f a = f a := if_pos h
theorem upW_hi {u : Nat} : upW m b f (m + u) = if b u = 0 then 0 else f (m + cnB b u) := by
  unfold upW
  rw [if_neg (by omega), show m + u - m = u by omega]
theorem wm_fr (W : WmP n m es b n ew) {u : Nat} (hu : u < n) (h : b u ≠ 0) : frE ew (m + cnB b u) = if 0 < b u then n else u := by
  unfold frE; rw [W.hi u hu h]; unfold wmE; split <;> simp
theorem wm_to (W : WmP n m es b n ew) {u : Nat} (hu : u < n) (h : b u ≠ 0) : toE ew (m + cnB b u) = if 0 < b u then u else n + 1 := by
  unfold toE; rw [W.hi u hu h]; unfold wmE; split <;> simp
theorem wm_cp (W : WmP n m es b n ew) {u : Nat} (hu : u < n) (h : b u ≠ 0) : cpE ew (m + cnB b u) = if 0 < b u then b u else -b u := by
  unfold cpE; rw [W.hi u hu h]; unfold wmE; split <;> rfl
theorem wm_out (W : WmP n m es b n ew) (v : Nat) : OutF (m + cnB b n) (frE ew) (toE ew) f v = OutF (m + n) (frE (wdE n m es b)) (toE (wdE n m es b)) (upW m b f) v := by
  rw [wd_out]
  unfold OutF
  rw [sum_cnB]
  congr 1
  · refine sumN_congr fun i hi => ?_
    rw [upW_lo hi]
    unfold frE toE
    rw [W.lo i hi]
  · refine sumN_congr fun u hu => ?_
    rw [upW_hi]
    by_cases h : b u = 0
    · rw [if_pos h, if_pos h]; simp
    · rw [if_neg h, if_neg h, wm_fr W hu h, wm_to W hu h]
theorem wm_gd (gd : Gd n m es) (hs : supOK n n b) (W : WmP n m es b n ew) (h1 : n + 2 ≤ 1024) (h2 : m + cnB b n ≤ 4096) : Gd (n + 2) (m + cnB b n) ew := by
  have key : ∀ i, i < m + cnB b n → i < m ∨ ∃ u, u < n ∧ b u ≠ 0 ∧ i = m + cnB b u := fun i hi => by
    by_cases h : i < m
    · exact .inl h
    · obtain ⟨v, a1, a2, a3⟩ := cnB_inv (b := b) (n := n) (a := i - m) (by omega)
      exact .inr ⟨v, a1, a2, by omega⟩
  refine ⟨h1, h2, fun i hi => ?_, fun i hi => ?_, fun i hi => ?_, fun i hi => ?_⟩
  · rcases key i hi with h | ⟨u, hu, hb, rfl⟩
    · obtain ⟨v, e, hv⟩ := gd.f i h
      rw [W.lo i h]; exact ⟨v, e, by omega⟩
    · rw [W.hi u hu hb]; unfold wmE
      split
      · exact ⟨n, rfl, by omega⟩
      · exact ⟨u, rfl, by omega⟩
  · rcases key i hi with h | ⟨u, hu, hb, rfl⟩
    · obtain ⟨v, e, hv⟩ := gd.t i h
      rw [W.lo i h]; exact ⟨v, e, by omega⟩
    · rw [W.hi u hu hb]; unfold wmE
      split
      · exact ⟨u, rfl, by omega⟩
      · exact ⟨n + 1, rfl, by omega⟩
  · rcases key i hi with h | ⟨u, hu, hb, rfl⟩
    · rw [W.lo i h]; exact gd.c i h
    · have := hs.2.1 u hu
      rw [W.hi u hu hb]; unfold wmE
      split
      · show 0 ≤ b u ∧ b u ≤ 1048576; omega
      · show 0 ≤ -b u ∧ -b u ≤ 1048576; omega
  · rcases key i hi with h | ⟨u, hu, hb, rfl⟩
    · rw [W.lo i h]; exact gd.k i h
    · rw [W.hi u hu hb]; unfold wmE
      split <;> (show -1048576 ≤ (0 : Int) ∧ (0 : Int) ≤ 1048576; omega)
theorem wm_le (gd : Gd n m es) (W : WmP n m es b n ew) (h : ∀ i, i < m + cnB b n → 0 ≤ f i ∧ f i ≤ cpE ew i) : OutF (m + cnB b n) (frE ew) (toE ew) f n ≤ posS n b := by
  rw [wm_out W, wd_out_s gd.ends]
  unfold posS
  refine sumN_le fun u hu => ?_
  by_cases h0 : 0 < b u
  · rw [if_pos h0, if_pos h0, upW_hi, if_neg (by omega)]
    have := (h (m + cnB b u) (by have := cnB_lt (b := b) hu (by omega); omega)).2
    rwa [wm_cp W hu (by omega), if_pos h0] at this
  · rw [if_neg h0, if_neg h0]; exact Int.le_refl _
theorem wm_plan (gd : Gd n m es) (hs : supOK n n b) (W : WmP n m es b n ew) (Fl : FlowP (n + 2) (m + cnB b n) (frE ew) (toE ew) (cpE ew) n (n + 1) f)
    (hv : OutF (m + cnB b n) (frE ew) (toE ew) f n = posS n b) : PlanP n m (frE es) (toE es) (cpE es) b (upW m b f) := by
  refine flow_plan gd hs ⟨fun i hi => ?_, fun v hvn h1 h2 => ?_⟩ (by rw [← wm_out W, hv]; exact Int.le_refl _)
  · by_cases h : i < m
    · have := Fl.cp i (by omega)
      rw [upW_lo h]
      unfold cpE at *
      rw [W.lo i h] at this
      rw [wd_lo h]; exact this
    · obtain ⟨u, rfl⟩ : ∃ u, i = m + u := ⟨i - m, by omega⟩
      rw [upW_hi, wd_cp]
      by_cases h0 : b u = 0
      · rw [if_pos h0, if_neg (by omega)]; omega
      · rw [if_neg h0, ← wm_cp W (by omega) h0]
        exact Fl.cp _ (by have := cnB_lt (b := b) (j := u) (k := n) (by omega) h0; omega)
  · rw [← wm_out W]; exact Fl.cons v hvn h1 h2
theorem wm_flow (gd : Gd n m es) (W : WmP n m es b n ew) (gw : Gd (n + 2) (m + cnB b n) ew) (Pl : PlanP n m (frE es) (toE es) (cpE es) b g) :
    ∃ G, FlowP (n + 2) (m + cnB b n) (frE ew) (toE ew) (cpE ew) n (n + 1) G ∧ OutF (m + cnB b n) (frE ew) (toE ew) G n = posS n b := by
  let G : Nat → Int := fun j => if j < m then g j else cpE ew j
  have Ghi : ∀ u, u < n → upW m b G (m + u) = if 0 < b u then b u else -b u := fun u hu => by
    rw [upW_hi]
    by_cases h0 : b u = 0
    · rw [if_pos h0, if_neg (by omega)]; omega
    · rw [if_neg h0]
      show (if m + cnB b u < m then g (m + cnB b u) else cpE ew (m + cnB b u)) = _
      rw [if_neg (by omega), wm_cp W hu h0]
  have Gout : ∀ v, OutF m (frE es) (toE es) (upW m b G) v = OutF m (frE es) (toE es) g v := fun v => sumN_congr fun i hi => by
    rw [upW_lo hi]
    show (if frE es i = v then (if i < m then g i else cpE ew i) else 0) - (if toE es i = v then (if i < m then g i else cpE ew i) else 0) = _
    rw [if_pos hi]
  refine ⟨G, ⟨fun i hi => ?_, fun v hv h1 h2 => ?_⟩, ?_⟩
  · show 0 ≤ (if i < m then g i else cpE ew i) ∧ (if i < m then g i else cpE ew i) ≤ _
    by_cases h : i < m
    · have := Pl.cp i h
      rw [if_pos h]
      unfold cpE at *
      rw [W.lo i h]; exact this
    · rw [if_neg h]
      exact ⟨(gw.c i hi).1, Int.le_refl _⟩
  · have hvn : v < n := by omega
    rw [wm_out W, wd_out_v hvn, Gout, Pl.out v hvn, Ghi v hvn]
    split <;> omega
  · rw [wm_out W, wd_out_s gd.ends]
    unfold posS
    refine sumN_congr fun u hu => ?_
    rw [Ghi u hu]
    split <;> rfl
/-- The supplies can be met just if all flows. -/
theorem wm_iff (gd : Gd n m es) (hs : supOK n n b) (W : WmP n m es b n ew) (gw : Gd (n + 2) (m + cnB b n) ew) (Mx : MaxP (n + 2) (m + cnB b n) (frE ew) (toE ew) (cpE ew) n (n + 1) f) :
    OutF (m + cnB b n) (frE ew) (toE ew) f n ≤ posS n b ∧ ((∃ g, PlanP n m (frE es) (toE es) (cpE es) b g) ↔ OutF (m + cnB b n) (frE ew) (toE ew) f n = posS n b) := by
  have le := wm_le gd W Mx.fl.cp
  refine ⟨le, ⟨fun ⟨g, Pl⟩ => ?_, fun e => ⟨_, wm_plan gd hs W Mx.fl e⟩⟩⟩
  obtain ⟨G, Hg, e⟩ := wm_flow gd W gw Pl
  have hc := Mx.cut gw.ends (by omega)
  have := Hg.le_cut gw.ends (by omega) (C := Rch (RsS (m + cnB b n) (frE ew) (toE ew) (cpE ew) f) n) .refl Mx.nr
  omega
end

end Go.Proofs.Ytkdnnfpmppmmcaa

namespace Go.Proofs.Ytkdnnfpmppmmcaa
open Go
set_option linter.unusedVariables false
set_option linter.unusedSimpArgs false

def BMet (b1 b3 : Nat) (p1_supply : Value) (r16 : Int) (R : Res → H → Prop) (h19 : H) : Prop :=
  ldN h19 (bk b1) 2 fun x75 =>
  T Try.prog F.compassref03_Copy [.agg ⟨x75⟩] h19 (rt (fun v76 h77 =>
  ∃ r78 : List Value, r78.length = 2 ∧ v76 = .agg ⟨r78⟩ ∧
  newP h77 (.cells ⟨[.int .i64 0, .slice none 0 0]⟩ 24 (0, 0)) fun b79 h80 =>
  stN h80 (bk b79) r78 2 fun h81 =>
  ldI h81 ((bk b1).add 0) .i64 fun x82 =>
  ldI h81 ((bk b79).add 0) .i64 fun x83 =>
  stC h81 ((bk b79).add 0) (.int .i64 (IntKind.i64.wrap (x83 + 2))) fun h84 =>
  slcP p1_supply fun a85 l86 c87 =>
  ∃ (I88 : (Int × Int × Unit) → H → Prop) (r89 : (Int × Int × Unit) × H → (Int × Int × Unit) × H → Prop), WellFounded r89 ∧ I88 (0, 0, ()) h84 ∧
  ∀ (total_91 : Int) (s92 : Int) (h90 : H), I88 (total_91, s92, ()) h90 →
  ifP (decide (s92 < ((l86 : Nat) : Int))) (ixS p1_supply s92 1 fun a93 =>
  ldI h90 a93 .i64 fun x94 =>
  ifP (decide (0 < x94)) (ldV h90 ((bk b79).add 1) fun x95 =>
  ([.int .i64 x82, .int .i64 s92, .int .i64 x94, .int .i64 0] : List Value).length = 4 ∧
  newP h90 (.cells ⟨[.int .i64 x82, .int .i64 s92, .int .i64 x94, .int .i64 0]⟩ 44 (0, 0)) fun b96 h97 =>
  apP x95 (.slice (some (bk b96)) 1 1) h97 4 44 32 [.int .i64 0, .int .i64 0, .int .i64 0, .int .i64 0] fun s98 h99 =>
  oneP s98 (stC h99 ((bk b79).add 1) s98 fun h100 =>
  I88 ((IntKind.i64.wrap (total_91 + x94)), (IntKind.i64.wrap (s92 + 1)), ()) h100 ∧ r89 (((IntKind.i64.wrap (total_91 + x94)), (IntKind.i64.wrap (s92 + 1)), ()), h100) ((total_91, s92, ()), h90)))
  (ifP (decide (x94 < 0)) (ldV h90 ((bk b79).add 1) fun x101 =>
  ([.int .i64 s92, .int .i64 (IntKind.i64.wrap (x82 + 1)), .int .i64 (IntKind.i64.wrap (0 - x94)), .int .i64 0] : List Value).length = 4 ∧
  newP h90 (.cells ⟨[.int .i64 s92, .int .i64 (IntKind.i64.wrap (x82 + 1)), .int .i64 (IntKind.i64.wrap (0 - x94)), .int .i64 0]⟩ 44 (0, 0)) fun b102 h103 =>
  apP x101 (.slice (some (bk b102)) 1 1) h103 4 44 32 [.int .i64 0, .int .i64 0, .int .i64 0, .int .i64 0] fun s104 h105 =>
  oneP s104 (stC h105 ((bk b79).add 1) s104 fun h106 =>
  I88 (total_91, (IntKind.i64.wrap (s92 + 1)), ()) h106 ∧ r89 ((total_91, (IntKind.i64.wrap (s92 + 1)), ()), h106) ((total_91, s92, ()), h90)))
  (I88 (total_91, (IntKind.i64.wrap (s92 + 1)), ()) h90 ∧ r89 ((total_91, (IntKind.i64.wrap (s92 + 1)), ()), h90) ((total_91, s92, ()), h90))))
  (ldN h90 (bk b79) 2 fun x107 =>
  ixA (bk b3) 2 1 1 fun a108 =>
  ldI h90 a108 .i64 fun x109 =>
  T Try.prog F.maxflow_Solve [.agg ⟨x107⟩, .int .i64 x82, .int .i64 (IntKind.i64.wrap (x82 + 1)), .int .i64 x109] h90 (rt (fun v110 h111 =>
  ∃ r112 : List Value, r112.length = 4 ∧ ∃ r113 : Int, ∃ r114 : Int, v110 = .tuple ⟨[.agg ⟨r112⟩, .int .i64 r113, .int .i64 r114]⟩ ∧
  newP h111 (.cells ⟨[.int .i64 0, .int .i64 0, .slice none 0 0, .slice none 0 0]⟩ 56 (0, 0)) fun b115 h116 =>
  stN h116 (bk b115) r112 4 fun h117 =>
  ifP (!decide (r114 = 0)) (ifP (decide (r114 = 50)) (R (.ret (.bool true)) h117) (ifP (decide (r114 = 3)) (ldI h117 ((bk b79).add 0) .i64 fun x118 =>
  ifP (decide (1024 < x118)) (R (.ret (.bool true)) h117) (ldV h117 ((bk b79).add 1) fun x119 =>
  slcP x119 fun a120 l121 c122 =>
  R (.ret (.bool (decide (4096 < ((l121 : Nat) : Int))))) h117)) (R (.ret (.bool false)) h117)))
  (ifP ((decide (r16 = 0)) == (decide (r113 = total_91))) (R (.ret (.bool (decide (r113 ≤ total_91)))) h117) (R (.ret (.bool false)) h117))) (fun v123 h124 => R (.pan v123) h124)))) (fun v125 h126 => R (.pan v125) h126))

theorem wrong13_g {n m : Nat} {es : Nat → Ed} {s t : Nat} {k : Int} (gd : Gd n m es) (hs : s < n) (ht : t < n) (hst : s ≠ t) : wrong13 n m es s t k = if 1 ≤ k ∧ k ≤ 3 then 0 else 50 := by
  have hE : endsC n m es s t = 0 := by
    have w1 : wrongC n m es s = 0 := by unfold wrongC; rw [if_pos (Gd.iff.2 gd), if_pos (by omega)]
    have w2 : wrongC n m es t = 0 := by unfold wrongC; rw [if_pos (Gd.iff.2 gd), if_pos (by omega)]
    unfold endsC
    rw [w1, w2, if_pos rfl, if_pos rfl, if_neg (by omega)]
  unfold wrong13
  rw [if_pos hE]
theorem wrong13_3 {n s t k : Int} {m : Nat} {es : Nat → Ed} (h : 1024 < n ∨ 4096 < m) : wrong13 n m es s t k = 3 := by
  have e : (faultG n m es).1 = 3 := by unfold faultG; rw [if_pos (by omega)]
  unfold wrong13 endsC wrongC
  rw [e, if_neg (by omega), if_neg (by omega), if_neg (by omega)]

section
variable {h q : H} {w : List Value} {n m l : Nat} {es : Nat → Ed} {sv : Value} {bf : Nat → Int}
theorem Met_T {b1 b3 : Nat} {k1_ k2_ e : Int} (G : GrA q w l m es) (gd : Gd l m es) (hs : supOK l l bf) (Z : RS q sv (ints l bf)) (B1_ : Bl q b1 w) (B3 : Bl q b3 [.int .i64 k1_, .int .i64 k2_])
    (he : e = 0 ↔ ∃ g, PlanP l m (frE es) (toE es) (cpE es) bf g) (x : Ext h q) : BMet b1 b3 sv e (fun r h' => r = .ret (.bool true) ∧ Ext h h') q := by
  unfold BMet
  have n1 := gd.n1
  have m1 := gd.m1
  obtain ⟨gv, rfl, Gv⟩ := G.gs
  refine B1_.ldN rfl ((Copy_R (Gv.gr _) (by omega)).mono ?_)
  rintro _ q8 ⟨ev0, ow, rfl, bs, k1⟩
  refine rt_ret ⟨_, rfl, rfl, new_bl_st rfl rfl (by
    intro z hz
    simp only [List.mem_cons, List.not_mem_nil, or_false] at hz
    rcases hz with rfl | rfl
    · rfl
    · exact slc_one k1.isS) ?_⟩
  intro b79 q9 hb79 x9 B79
  have k4 : B1 (own1 ow b79 4) q9 4 b79 [.int .i64 l, ev0] := B1.new B79
  have bs := bs.nw (j := 4) x9 hb79
  have k1 := k1.nw (j := 4) x9 hb79
  generalize own1 ow b79 4 = ow at *
  refine ⟨_, (B1_.ext bs.ext).ld rfl, _, k4.ld rfl, ?_⟩
  have e2 : IntKind.i64.wrap ((l : Int) + 2) = ((l + 2 : Nat) : Int) := w64_in (by omega) (by omega)
  have e1 : IntKind.i64.wrap ((l : Int) + 1) = ((l + 1 : Nat) : Int) := w64_in (by omega) (by omega)
  simp only [e1, e2]
  refine k4.st (j := 0) (by simp) ?_
  intro q84 F1 k4
  simp only [List.set] at k4
  have bs := bs.fm F1 (by simp <;> omega)
  have k1 := k1.fm F1 (by simp <;> omega)
  refine (Z.ext bs.ext).len (ints_length _ _) fun _ _ => ?_
  let I : (Int × Int × Unit) → H → Nat → Prop := fun p q' z => ∃ (j : Nat) (ow : Own) (ev : Value) (ew : Nat → Ed), p.2.1 = j ∧ j ≤ l ∧ z = l - j ∧ Bs q ow q' ∧ B1 ow q' 4 b79 [.int .i64 ((l + 2 : Nat) : Int), ev] ∧
    S4 ow q' 1 ev (m + cnB bf j) ew ∧ WmP l m es bf j ew ∧ p.1 = posS j bf
  refine ⟨fun p q => ∃ k, I p q k, rk I, rk_wf I, ⟨_, 0, ow, ev0, es, rfl, by omega, rfl, bs, k4, k1, WmP.zero, rfl⟩, ?_⟩
  clear bs k4 k1
  intro tot p q2 hI
  obtain ⟨j, ow, ev, ew, e3, hj, hz, bs, k4, k1, W, e4⟩ := mu_spec hI
  generalize hkk : mu I ((tot, p, ()), q2) = km at *
  change p = (j : Int) at e3
  change tot = posS j bf at e4
  subst e3 e4
  have hlt : j < l → l - (j + 1) < mu I ((posS j bf, (j : Int), ()), q2) := fun h => by rw [hkk, hz]; exact sub_dec h
  clear hI
  have cj := cnB_le bf j
  have pj : 0 ≤ posS j bf ∧ posS j bf ≤ j * 1048576 := ⟨posS_nn, sumN_bd fun v hv => by have := hs.2.1 v (by omega); split <;> omega⟩
  refine ifP_of (fun h1 => ?_) (fun h1 => ?_)
  · have hjl : j < l := by have := of_decide_eq_true h1; omega
    have bj := hs.2.1 j hjl
    have ps1 : posS (j + 1) bf = posS j bf + if 0 < bf j then bf j else 0 := rfl
    have cn1 : cnB bf (j + 1) = cnB bf j + if bf j = 0 then 0 else 1 := rfl
    refine (Z.ext bs.ext).rdI hjl (ifP_of (fun h2 => ?_) (fun h2 => ifP_of (fun h3 => ?_) (fun h3 => ?_)))
    · have h2 := of_decide_eq_true h2
      refine ⟨_, k4.ld rfl, rfl, ?_⟩
      refine S4.push (ed := ⟨(l : Nat), (j : Nat), bf j, 0⟩) k1 (by omega) ?_
      intro _ _ v2 own2 q33 _ _ F2 k1
      have bs := bs.fm F2 (by simp <;> omega)
      have k4 := k4.fm F2 (by simp <;> omega)
      refine oneP_slc k1.isS (k4.st (by simp) ?_)
      intro q34 F3 k4
      simp only [List.set] at k4
      have bs := bs.fm F3 (by simp <;> omega)
      have k1 := k1.fm F3 (by simp <;> omega)
      have ew2 : IntKind.i64.wrap (posS j bf + bf j) = posS (j + 1) bf := by rw [ps1, if_pos h2]; exact w64_in (by omega) (by omega)
      rw [ew2, i64_inc (by omega)]
      refine mu_next (I := I) (k := l - (j + 1)) ⟨j + 1, own2, v2, _, rfl, hjl, rfl, bs, k4, ?_, W.push (by omega), rfl⟩ (hlt hjl)
      rw [cn1, if_neg (by omega)]
      refine S4.congr k1 fun a ha => ?_
      unfold wmE
      rw [if_pos h2]
    · have h2 := of_decide_eq_false h2
      have h3 := of_decide_eq_true h3
      refine ⟨_, k4.ld rfl, rfl, ?_⟩
      have e5 : IntKind.i64.wrap (0 - bf j) = - bf j := by rw [Int.zero_sub]; exact w64_in (by omega) (by omega)
      rw [e5]
      refine S4.push (ed := ⟨(j : Nat), (l + 1 : Nat), - bf j, 0⟩) k1 (by omega) ?_
      intro _ _ v2 own2 q33 _ _ F2 k1
      have bs := bs.fm F2 (by simp <;> omega)
      have k4 := k4.fm F2 (by simp <;> omega)
      refine oneP_slc k1.isS (k4.st (by simp) ?_)
      intro q34 F3 k4
      simp only [List.set] at k4
      have bs := bs.fm F3 (by simp <;> omega)
      have k1 := k1.fm F3 (by simp <;> omega)
      rw [i64_inc (by omega)]
      refine mu_next (I := I) (k := l - (j + 1)) ⟨j + 1, own2, v2, _, rfl, hjl, rfl, bs, k4, ?_, W.push (by omega), by rw [ps1, if_neg h2, Int.add_zero]⟩ (hlt hjl)
      rw [cn1, if_neg (by omega)]
      refine S4.congr k1 fun a ha => ?_
      unfold wmE
      rw [if_neg h2]
    · have h2 := of_decide_eq_false h2
      have h3 := of_decide_eq_false h3
      rw [i64_inc (by omega)]
      refine mu_next (I := I) (k := l - (j + 1)) ⟨j + 1, ow, ev, ew, rfl, hjl, rfl, bs, k4, ?_, W.skip (by omega), by rw [ps1, if_neg h2, Int.add_zero]⟩ (hlt hjl)
      rw [cn1, if_pos (by omega)]; exact k1
  have hjl : j = l := by have := of_decide_eq_false h1; omega
  subst hjl
  clear hlt hkk hz h1 hj
  refine k4.ldN rfl (end1 (B3.ext bs.ext) ?_)
  refine (Solve_T (k1.gs.gr ((j + 2 : Nat) : Int)) (j : Int) ((j + 1 : Nat) : Int) k2_).mono ?_
  intro r q7 hA
  obtain ⟨x7, ⟨hw, rfl⟩ | ⟨hw, n', s', t', c1, c2, f, sd, f1, f2, f3, hs_, ht_, hst, gw, rfl, S⟩⟩ := hA
  · refine rt_ret ⟨_, rfl, _, _, rfl, new_bl_st rfl rfl (by simp [Value.oneCell']) ?_⟩
    intro b22 q23 hb22 x22 B22
    have xx := (x.trans' bs.ext).trans' (x7.trans' x22)
    refine ifP_of (fun _ => ?_) (fun h => absurd (by simpa using h) hw)
    by_cases sm : j + 2 ≤ 1024 ∧ m + cnB bf j ≤ 4096
    · have gw := wm_gd gd hs W sm.1 sm.2
      rw [wrong13_g gw (by omega) (by omega) (by omega)] at hw ⊢
      split at hw
      · exact absurd rfl hw
      · rename_i h
        rw [if_neg h]
        exact ifP_of (fun _ => ⟨by first | rfl | trivial, xx⟩) (fun h => by simp at h)
    · rw [wrong13_3 (by omega)]
      refine ifP_of (fun h => by simp at h) (fun _ => ifP_of (fun _ => ?_) (fun h => by simp at h))
      have k4b := k4.bl.ext (x7.trans' x22)
      refine ⟨_, k4b.ld rfl, ifP_of (fun _ => ⟨by first | rfl | trivial, xx⟩) (fun h => ⟨_, k4b.ld rfl, k1.gs.len fun _ _ => ⟨?_, xx⟩⟩)⟩
      have h := of_decide_eq_false h
      congr 2
      rw [decide_eq_true_eq]; omega
  have : n' = j + 2 := by omega
  subst this
  have : s' = j := by omega
  subst this
  have : t' = s' + 1 := by omega
  subst this
  refine rt_ret ⟨_, rfl, _, _, rfl, new_bl_st rfl rfl (by simp [Value.oneCell']) ?_⟩
  intro b22 q23 hb22 x22 B22
  have xx := (x.trans' bs.ext).trans' (x7.trans' x22)
  obtain ⟨le, io⟩ := wm_iff gd hs W gw S.mx
  refine ifP_of (fun h => by simp at h) (fun _ => ifP_of (fun _ => ⟨by simp; exact le, xx⟩) (fun h => ?_))
  have hh : (e = 0) ↔ (OutF (m + cnB bf s') (frE ew) (toE ew) f s' = posS s' bf) := he.trans io
  rw [beq_eq_false_iff_ne] at h
  exact absurd (decide_eq_decide.2 hh) h

theorem WholeMet_T {n : Int} (G : GrA h w n m es) (Z : RS h sv (ints l bf)) (k1 k2 : Int) : T Try.prog F.compasstop_WholeMet [.agg ⟨w⟩, sv, .agg ⟨[.int .i64 k1, .int .i64 k2]⟩] h fun r h' => r = .ret (.bool true) ∧ Ext h h' := by
  refine E_compasstop_WholeMet ?_
  unfold B_compasstop_WholeMet
  refine new_bl ?_
  intro b1 q1 hb1 x1 B1_
  refine new_bl ?_
  intro b3 q3 hb3 x3 B3
  refine flows_R.mono ?_
  rintro _ q6 ⟨rfl, x6⟩
  refine rt_ret ⟨_, rfl, ifP_of (fun h => by simp at h) (fun _ => ?_)⟩
  have B1_ := (B1_.ext x3).ext x6
  have B3 := B3.ext x6
  have x := (x1.trans' x3).trans' x6
  clear x1 x3 x6
  refine B1_.ldN G.one.1 (end0 B3 ((MSolve_T (G.ext x) (Z.ext x) k1).mono ?_))
  rintro r q7 ⟨x7, hS⟩
  have xb := x.trans' x7
  rcases hS with ⟨hw, rfl⟩ | ⟨hw, hnl, gd, hS⟩
  · refine rt_ret ⟨_, rfl, _, _, _, rfl, new_bl_st rfl rfl plZ_one ?_⟩
    intro b17 q18 hb17 x17 B17
    refine ifP_of (fun _ => ifP_of (fun _ => ifP_of (fun _ => slcP_mk ⟨by simp, xb.trans' x17⟩) (fun h => by simp at h)) (fun h => absurd (by simpa using h) wrong14_5)) (fun h => absurd (by simpa using h) hw)
  subst hnl
  have hs := (wrong14_0 hw).2.2.1
  rcases hS with ⟨own, vs, von, vp, f, p, rfl, bs, Pr⟩ | ⟨bsd, sd, rfl, hbs, S, hl⟩
  · refine rt_ret ⟨_, rfl, _, _, _, rfl, new_bl_st rfl rfl Pr.one ?_⟩
    intro b17 q18 hb17 x17 B17
    have xc := xb.trans' x17
    have xd := x7.trans' x17
    refine ifP_of (fun h => by simp at h) (fun _ => ?_)
    exact Met_T (e := 0) (G.ext xc) gd hs (Z.ext xc) (B1_.ext xd) (B3.ext xd) ⟨fun _ => ⟨f, Pr.pl⟩, fun _ => rfl⟩ xc
  · refine rt_ret ⟨_, rfl, _, _, _, rfl, new_bl_st rfl rfl plZ_one ?_⟩
    intro b17 q18 hb17 x17 B17
    have xc := xb.trans' x17
    have xd := x7.trans' x17
    refine ifP_of (fun _ => ifP_of (fun h => by simp at h) (fun _ => ?_)) (fun h => by simp at h)
    exact Met_T (e := 5) (G.ext xc) gd hs (Z.ext xc) (B1_.ext xd) (B3.ext xd) ⟨fun h => by omega, fun ⟨g, Pg⟩ => (Pg.none_ gd hl).elim⟩ xc
end

end Go.Proofs.Ytkdnnfpmppmmcaa

