import Derived.Deep.Slices
import Derived.Deep.Fields
import Derived.ChangeSame
import Derived.SizedLaws
import Derived.WalkKit
import Derived.ProofKit
import Derived.OpenShut
import Derived.ShutString
import Derived.ChangeOld
import Derived.Below
import Derived.Test.YtkdnnfpmppmmcaaCF4
namespace Go.Proofs.Ytkdnnfpmppmmcaa
open Go
set_option linter.unusedVariables false
set_option linter.unusedSimpArgs false

section
variable {h : H} {w : List Value} {n : Int} {m l : Nat} {es : Nat → Ed} {sv : Value} {bf : Nat → Int}
theorem Gd.ev (gd : Gd l m es) (hs : supOK l l bf) : EvP l m (frE es) (toE es) (cpE es) bf :=
  ⟨gd.n1, gd.m1, fun i hi => gd.ends i hi, gd.c, hs.2.1, hs.2.2⟩
/-- The answer to a wrong task. -/
theorem err14 {b3 b5 b7 b9 : Nat} {q : H} {c k : Int} (xq : Ext h q) (n3 : h b3 = none) (n5 : h b5 = none) (n7 : h b7 = none) (n9 : h b9 = none) (P : P4 q b3 b5 b7 b9 plZ 0 (.slice none 0 0) 0) (hc : wrong14 n m es l bf k = c) (h0 : c ≠ 0) :
    stN q (bk b3) plZ 3 fun h34 => stC h34 (bk b5) (.int .i64 0) fun h35 => stC h35 (bk b7) (.slice none 0 0) fun h36 => stC h36 (bk b9) (.int .i64 c) fun h37 =>
      ldN h37 (bk b3) 3 fun x38 => ldI h37 (bk b5) .i64 fun x39 => ldV h37 (bk b7) fun x40 => ldI h37 (bk b9) .i64 fun x41 => SolC h n m es l bf k (.ret (.tuple ⟨[.agg ⟨x38⟩, .int .i64 x39, x40, .int .i64 x41]⟩)) h37 :=
  P.s6 rfl plZ_one fun q1 K1 P => P.s7 fun q2 K2 P => P.s8 fun q3 K3 P => P.s9 fun q4 K4_ P =>
    P.read ⟨K4.ext_ xq n3 n5 n7 n9 (((K1.trans K2).trans K3).trans K4_), .inl ⟨by rw [hc]; exact h0, by rw [hc]⟩⟩
theorem MSolve_T (G : GrA h w n m es) (Z : RS h sv (ints l bf)) (k : Int) : T Try.prog F.mincost_Solve [.agg ⟨w⟩, sv, .int .i64 k] h (SolC h n m es l bf k) := by
  refine Solve_of ?_
  unfold BSolveA
  refine new_bl ?_
  intro b1 g1 hb1 x1 B1_
  have bs : Bs h (own1 (fun _ => 0) b1 14) g1 := Bs.start.new x1 hb1
  have k14 : B1 (own1 (fun _ => 0) b1 14) g1 14 b1 w := B1.new B1_
  generalize own1 (fun _ => 0) b1 14 = ow at *
  refine new_bl ?_
  intro b3 g3 hb3 x3 B3
  have k15 : B1 (own1 ow b3 15) g3 15 b3 plZ := B1.new B3
  have bs := bs.nw (j := 15) x3 hb3
  have k14 := k14.nw (j := 15) x3 hb3
  generalize own1 ow b3 15 = ow at *
  refine new_bl ?_
  intro b5 g5 hb5 x5 B5
  have k16 : B1 (own1 ow b5 16) g5 16 b5 [.int .i64 0] := B1.new B5
  have bs := bs.nw (j := 16) x5 hb5
  have k14 := k14.nw (j := 16) x5 hb5
  have k15 := k15.nw (j := 16) x5 hb5
  generalize own1 ow b5 16 = ow at *
  refine new_bl ?_
  intro b7 g7 hb7 x7 B7
  have k17 : B1 (own1 ow b7 17) g7 17 b7 [.slice none 0 0] := B1.new B7
  have bs := bs.nw (j := 17) x7 hb7
  have k14 := k14.nw (j := 17) x7 hb7
  have k15 := k15.nw (j := 17) x7 hb7
  have k16 := k16.nw (j := 17) x7 hb7
  generalize own1 ow b7 17 = ow at *
  refine new_bl ?_
  intro b9 g9 hb9 x9 B9
  have k18 : B1 (own1 ow b9 18) g9 18 b9 [.int .i64 0] := B1.new B9
  have bs := bs.nw (j := 18) x9 hb9
  have k14 := k14.nw (j := 18) x9 hb9
  have k15 := k15.nw (j := 18) x9 hb9
  have k16 := k16.nw (j := 18) x9 hb9
  have k17 := k17.nw (j := 18) x9 hb9
  generalize own1 ow b9 18 = ow at *
  clear x1 x3 x5 x7 x9 B1_ B3 B5 B7 B9 hb1 hb3 hb5 hb7 hb9
  have n3 : h b3 = none := bs.new_ (by rw [k15.own_]; omega)
  have n5 : h b5 = none := bs.new_ (by rw [k16.own_]; omega)
  have n7 : h b7 = none := bs.new_ (by rw [k17.own_]; omega)
  have n9 : h b9 = none := bs.new_ (by rw [k18.own_]; omega)
  refine k14.ldN G.one.1 ((Check_T (G.ext bs.ext)).mono ?_)
  rintro _ q ⟨rfl, x⟩
  refine rt_ret ⟨_, rfl, rfl, ?_⟩
  have bs := bs.ext_ x
  have k14 := k14.ext x
  have k15 := k15.ext x
  have k16 := k16.ext x
  have k17 := k17.ext x
  have k18 := k18.ext x
  clear x
  refine new_bl_st rfl rfl (by simp [Value.oneCell']) ?_
  intro b15 q2 hb15 x15 B15
  have k19 : B1 (own1 ow b15 19) q2 19 b15 _ := B1.new B15
  have bs := bs.nw (j := 19) x15 hb15
  have k14 := k14.nw (j := 19) x15 hb15
  have k15 := k15.nw (j := 19) x15 hb15
  have k16 := k16.nw (j := 19) x15 hb15
  have k17 := k17.nw (j := 19) x15 hb15
  have k18 := k18.nw (j := 19) x15 hb15
  generalize own1 ow b15 19 = ow at *
  clear x15 hb15 B15
  have P := P4.of rfl k15 k16 k17 k18
  have h6 := k15.own_
  have h7 := k16.own_
  have h8 := k17.own_
  have h9 := k18.own_
  have e19 := k19.own_
  refine ⟨_, k19.ld rfl, ifP_of (fun h0 => ?_) (fun h0 => ?_)⟩
  · have h0 : (faultG n m es).1 ≠ 0 := by simpa using h0
    have hc : wrong14 n m es l bf k = (faultG n m es).1 := by unfold wrong14; rw [if_neg h0]
    have kk : ∀ {q q' : H}, Bl q b15 [.int .i64 (faultG n m es).1, .int .i64 (faultG n m es).2] → K4 b3 b5 b7 b9 q q' → Bl q' b15 [.int .i64 (faultG n m es).1, .int .i64 (faultG n m es).2] := fun B k4 => by
      obtain ⟨e, hb⟩ := B
      exact ⟨e, k4 _ _ (by rintro rfl; omega) (by rintro rfl; omega) (by rintro rfl; omega) (by rintro rfl; omega) hb⟩
    refine P.k6.ldN rfl ⟨_, k19.ld rfl, P.s6 rfl plZ_one fun q1 K1 P => ?_⟩
    have B1' := kk k19.bl K1
    refine ⟨sameAt_bl k19.bl B1', P.s7 fun q2 K2 P => ?_⟩
    have B2' := kk B1' K2
    refine ⟨sameAt_bl B1' B2', P.s8 fun q3 K3 P => ?_⟩
    have B3' := kk B2' K3
    refine ⟨sameAt_bl B2' B3', P.s9 fun q4 K4_ P => ?_⟩
    exact P.read ⟨K4.ext_ bs.ext n3 n5 n7 n9 (((K1.trans K2).trans K3).trans K4_), .inl ⟨by rw [hc]; exact h0, by rw [hc]⟩⟩
  have h0 : (faultG n m es).1 = 0 := by simpa using h0
  obtain ⟨n, rfl, gd⟩ := Gd.of h0
  refine k14.ldN G.one.1 ((supplied_T (G.ext bs.ext) (by have := gd.n1; omega) (Z.ext bs.ext)).mono ?_)
  rintro _ q3 ⟨x, hr⟩
  have bs := bs.ext_ x
  have k14 := k14.ext x
  have k15 := k15.ext x
  have k16 := k16.ext x
  have k17 := k17.ext x
  have k18 := k18.ext x
  have P := P4.of rfl k15 k16 k17 k18
  rcases hr with ⟨hs, rfl⟩ | ⟨hs, rfl⟩
  rotate_left
  · refine rt_ret ⟨_, rfl, ifP_of (fun _ => ?_) (fun h => by simp at h)⟩
    have hc : wrong14 n m es l bf k = 130 := by unfold wrong14; rw [if_pos h0, if_neg hs]
    exact P.k6.ldN rfl (err14 bs.ext n3 n5 n7 n9 P hc (by omega))
  refine rt_ret ⟨_, rfl, ifP_of (fun h => by simp at h) (fun _ => ?_)⟩
  have hnl : n = l := by have := hs.1; omega
  subst hnl
  have E := gd.ev hs
  refine k14.ldN G.one.1 ((mnet_T (G.ext bs.ext) gd (Z.ext bs.ext)).mono ?_)
  rintro _ q4 ⟨bn, own', rfl, bs4, N⟩
  have F4 : Fm [] ow q3 (mgO q3 ow own') q4 := bs4.mg
  have N : MN (mgO q3 ow own') q4 bn _ _ _ _ _ _ _ _ := N.mg bs4
  have bs := bs.fm F4 (by simp <;> omega)
  have k14 := k14.fm F4 (by simp <;> omega)
  have k15 := k15.fm F4 (by simp <;> omega)
  have k16 := k16.fm F4 (by simp <;> omega)
  have k17 := k17.fm F4 (by simp <;> omega)
  have k18 := k18.fm F4 (by simp <;> omega)
  generalize mgO q3 ow own' = ow4 at *
  have S : MS ow4 q4 bn n m (frE es) (toE es) (cpE es) bf (cA (ckE es)) (room0 (cpE es)) bf (fun _ => 0) := ⟨N, room0_ok fun i hi => (gd.c i hi).1, fun v hv => by rw [room0_out]; omega⟩
  have r0 : ∀ i, i < m → room0 (cpE es) (2 * i + 1) = 0 := fun i _ => by unfold room0; rw [if_neg (by omega)]
  have hcost : ∀ a, a < 2 * m → cA (ckE es) a = cA (ckE es) a := fun _ _ => rfl
  have hok : 1 ≤ k ∧ k ≤ 3 → wrong14 n m es n bf k = 0 := fun h => by unfold wrong14; rw [if_pos h0, if_pos hs, if_pos h]
  have up : ∀ {M : List Nat} {own : Own} {h : H} {r : Res} {h' : H}, M ⊆ [3, 6, 7, 8, 10, 13, 20, 21, 22] → MeetA M own h bn n m (frE es) (toE es) (cpE es) bf (cA (ckE es)) r h' → MeetA [3, 6, 7, 8, 10, 13, 20, 21, 22] own h bn n m (frE es) (toE es) (cpE es) bf (cA (ckE es)) r h' :=
    fun hM ⟨o, F, r⟩ => ⟨o, F.mono hM, r⟩
  refine rt_ret (ifP_of (fun h1 => ?_) (fun h1 => ifP_of (fun h2 => ?_) (fun h2 => ifP_of (fun h3 => ?_) (fun h3 => ?_))))
  · have h1 := of_decide_eq_true h1
    refine oneP_ptr ⟨b1, b3, b5, b7, b9, _, _, rfl, ?_⟩
    exact SolveB_T G Z gd (hok (by omega)) bs k14 k15 k16 k17 k18 E (f1 := F.mincost_ways_meet) (rv := .agg ⟨[.pointer (some (bk bn))]⟩) (room := fun _ => 0) (pot := fun _ => 0) (fun K hK => ⟨_, _, fun w _ => meth70 _ w, hK⟩) ((ways_T S E gd.k hcost r0 fun _ _ => rfl).mono fun r h' hr => up (by simp) hr) ⟨_, _, _, S⟩
  · have h2 := of_decide_eq_true h2
    refine oneP_ptr ⟨b1, b3, b5, b7, b9, _, _, rfl, ?_⟩
    exact SolveB_T G Z gd (hok (by omega)) bs k14 k15 k16 k17 k18 E (f1 := F.mincost_circles_meet) (rv := .agg ⟨[.pointer (some (bk bn))]⟩) (room := fun _ => 0) (pot := fun _ => 0) (fun K hK => ⟨_, _, fun w _ => meth71 _ w, hK⟩) ((circles_T S E gd.k hcost).mono fun r h' hr => up (by simp) hr) ⟨_, _, _, S⟩
  · have h3 := of_decide_eq_true h3
    refine oneP_ptr (new_bl ?_)
    intro b45 q5 hb45 x45 B45
    have k10 : B1 (own1 ow4 b45 10) q5 10 b45 _ := B1.new B45
    have S : MS (own1 ow4 b45 10) q5 bn n m (frE es) (toE es) (cpE es) bf (cA (ckE es)) (room0 (cpE es)) bf (fun _ => 0) := ⟨S.net.nw x45 hb45, S.rm, S.bal⟩
    have bs := bs.nw (j := 10) x45 hb45
    have k14 := k14.nw (j := 10) x45 hb45
    have k15 := k15.nw (j := 10) x45 hb45
    have k16 := k16.nw (j := 10) x45 hb45
    have k17 := k17.nw (j := 10) x45 hb45
    have k18 := k18.nw (j := 10) x45 hb45
    generalize own1 ow4 b45 10 = ow5 at *
    refine ⟨b1, b3, b5, b7, b9, _, _, rfl, ?_⟩
    exact SolveB_T G Z gd (hok (by omega)) bs k14 k15 k16 k17 k18 E (f1 := F.mincost_scaling_meet) (rv := .pointer (some (bk b45))) (room := fun _ => 0) (pot := fun _ => 0) (fun K hK => ⟨_, _, fun w _ => meth72 _ w, hK⟩) (scaling_T S E gd.k hcost r0 (fun _ _ => rfl) k10) ⟨_, _, _, S⟩
  · have hc : wrong14 n m es n bf k = 50 := by
      have h1 := of_decide_eq_false h1
      have h2 := of_decide_eq_false h2
      have h3 := of_decide_eq_false h3
      unfold wrong14
      rw [if_pos h0, if_pos hs, if_neg (by omega)]
    have P := P4.of rfl k15 k16 k17 k18
    exact P.k6.ldN rfl (err14 bs.ext n3 n5 n7 n9 P hc (by omega))
end

end Go.Proofs.Ytkdnnfpmppmmcaa

namespace Go.Proofs.Ytkdnnfpmppmmcaa
open Go
set_option linter.unusedVariables false
set_option linter.unusedSimpArgs false

/-- A circle that costs less than nothing, of distinct nodes. -/
structure CircP (n M : Nat) (tl hd : Nat → Nat) (c : Nat → Int) (Y F : Nat → Nat) (p : Nat) : Prop where
  p1 : 1 ≤ p
  pn : p ≤ n
  cl : Y p = Y 0
  arc : ∀ s, s < p → F s < M ∧ hd (F s) = Y s ∧ tl (F s) = Y (s + 1)
  dis : ∀ s t, s < t → t < p → Y s ≠ Y t
  neg : sumN p (fun s => c (F s)) < 0
/-- Who was changed in round n + 1 hangs on such a circle. -/
theorem BF.circle {n M j tm : Nat} {tl hd : Nat → Nat} {c : Nat → Int} {U : Nat → Prop} {C : Int} {d : Nat → Int} {via τ r : Nat → Nat} (B : BF M tl hd c U C (n + 1) j d via τ r tm) (hnA : ∀ i, i < M → tl i < n ∧ hd i < n) {v : Nat} (hrv : r v = n + 1) :
    (∀ s, via (bck tl via v s) < M ∧ bck tl via v s < n) ∧ ∃ p, CircP n M tl hd c (fun t => bck tl via v (n + t)) (fun t => via (bck tl via v (n + t))) p ∧ ∀ q, 1 ≤ q → q < p → bck tl via v (n + q) ≠ bck tl via v n := by
  obtain ⟨hpos, p0, p1, p2, p3⟩ := B.found hnA hrv
  have hset : ∀ s, via (bck tl via v s) < M ∧ hd (via (bck tl via v s)) = bck tl via v s := fun s => by
    obtain ⟨a, b, c, _⟩ := B.set _ (hpos s)
    exact ⟨a, c⟩
  have hbn : ∀ s, bck tl via v s < n := fun s => by
    obtain ⟨a, c⟩ := hset s
    rw [← c]; exact (hnA _ a).2
  refine ⟨fun s => ⟨(hset s).1, hbn s⟩, ?_⟩
  obtain ⟨L, ⟨L1, L2, L3⟩, Lmin⟩ := least (P := fun p => 1 ≤ p ∧ p ≤ n ∧ bck tl via v (n + p) = bck tl via v n) ⟨p0, p1, p2, by rw [bck_add]; exact p3⟩
  refine ⟨L, ⟨L1, L2, L3, fun s _ => ⟨(hset _).1, (hset _).2, rfl⟩, fun i l h1 h2 e => ?_, ?_⟩, fun q q1 q2 e => ?_⟩
  · have e2 : bck tl via v (n + i + (L - l)) = bck tl via v (n + l + (L - l)) := by rw [bck_add, bck_add (i := n + l)]; rw [show bck tl via v (n + i) = bck tl via v (n + l) from e]
    rw [show n + l + (L - l) = n + L by omega, L3, show n + i + (L - l) = n + (i + (L - l)) by omega] at e2
    have := Lmin (i + (L - l)) ⟨by omega, by omega, e2⟩
    omega
  · have := B.circ (y := bck tl via v n) (p := L) L1 (by rw [← bck_add]; exact L3) (fun i _ => by rw [← bck_add]; exact hpos _)
    refine Int.lt_of_le_of_lt (Int.le_of_eq (sumN_congr fun t _ => ?_)) this
    rw [← bck_add]
  · have := Lmin q ⟨q1, by omega, e⟩
    omega

end Go.Proofs.Ytkdnnfpmppmmcaa

namespace Go.Proofs.Ytkdnnfpmppmmcaa
open Go
set_option linter.unusedVariables false
set_option linter.unusedSimpArgs false

section
variable {h : H} {w : List Value} {n M : Nat} {es : Nat → Ed} {dv : Value} {d : Nat → Int}
theorem ints_o1 (n : Nat) (f : Nat → Int) : ∀ v ∈ ints n f, v.oneCell' = true := by
  intro v hv
  unfold ints at hv
  obtain ⟨j, _, rfl⟩ := List.mem_map.1 hv
  rfl
end

end Go.Proofs.Ytkdnnfpmppmmcaa

namespace Go.Proofs.Ytkdnnfpmppmmcaa
open Go
open Classical
set_option linter.unusedVariables false
set_option linter.unusedSimpArgs false

section
variable {h : H} {w : List Value} {n m : Nat} {es : Nat → Ed} {sv : Value} {bf : Nat → Int}
/-- The first ones. -/
theorem RS.take {v : Value} {a b : Nat} {f : Nat → Int} (s : RS h v (ints (a + b) f)) (hc : capV v) (hb : 0 < b) : ∃ ad l c, v = .slice ad l c ∧ l = a + b ∧ a ≤ c ∧ RS h (sliceV ad c 0 (a : Int) 1) (ints a f) := by
  obtain ⟨ad, c, e, k⟩ := s
  obtain ⟨ad2, l2, c2, e2, hle⟩ := hc
  rw [e] at e2
  simp only [Value.slice.injEq] at e2
  obtain ⟨rfl, rfl, rfl⟩ := e2
  rw [ints_length] at hle e
  obtain ⟨a0, ha0, _⟩ := k 0 _ (ints_get (show 0 < a + b by omega))
  subst ha0
  refine ⟨some a0, a + b, c, e, rfl, by omega, ⟨some a0, c, ?_, fun j x hj => ?_⟩⟩
  · unfold sliceV
    rw [if_neg (show ¬ c = (0 : Int).toNat by simp; omega)]
    simp [Addr.add, ints_length]
  · have hl := (List.getElem?_eq_some_iff.1 hj).1
    rw [ints_length] at hl
    refine k j x ?_
    rw [ints_get (by omega)]
    rwa [ints_get hl] at hj
end

end Go.Proofs.Ytkdnnfpmppmmcaa

namespace Go.Proofs.Ytkdnnfpmppmmcaa
open Go
set_option linter.unusedVariables false
set_option linter.unusedSimpArgs false

theorem wrong14_0 {n : Int} {m : Nat} {es : Nat → Ed} {l : Nat} {bf : Nat → Int} {k : Int} (h : wrong14 n m es l bf k = 0) : n = l ∧ Gd l m es ∧ supOK l l bf ∧ 1 ≤ k ∧ k ≤ 3 := by
  unfold wrong14 at h
  by_cases h0 : (faultG n m es).1 = 0
  · rw [if_pos h0] at h
    by_cases h1 : supOK n l bf
    · rw [if_pos h1] at h
      by_cases h2 : 1 ≤ k ∧ k ≤ 3
      · have e := h1.1
        subst e
        exact ⟨rfl, Gd.iff.1 h0, h1, h2⟩
      · rw [if_neg h2] at h; omega
    · rw [if_neg h1] at h; omega
  · rw [if_neg h0] at h; exact absurd h h0
section
variable {h : H} {w : List Value} {n : Int} {m l : Nat} {es : Nat → Ed} {sv : Value} {bf : Nat → Int}
theorem longs_R {va vb : Value} {k : Nat} {f g : Nat → Int} (A : RS h va (ints k f)) (B : RS h vb (ints k g)) (he : ∀ i, i < k → f i = g i) (hk : k < 1000000000000000000) :
    T Try.prog F.compasslaw14_longs [va, vb] h fun r h' => r = .ret (.bool true) ∧ h = h' := by
  refine E_compasslaw14_longs ?_
  unfold B_compasslaw14_longs
  refine A.len (ints_length _ _) fun _ _ => B.len (ints_length _ _) fun _ _ => ifP_of (fun h => by simp at h) (fun _ => A.len (ints_length _ _) fun _ _ => ?_)
  let I : (Int × Unit) → H → Nat → Prop := fun p q z => ∃ j : Nat, p.1 = j ∧ j ≤ k ∧ z = k - j ∧ q = h
  refine ⟨fun p q => ∃ k, I p q k, rk I, rk_wf I, ⟨_, 0, rfl, by omega, rfl, rfl⟩, ?_⟩
  intro p q hI
  obtain ⟨j, e1, hj, hk2, e2⟩ := mu_spec hI
  generalize hkk : mu I ((p, ()), q) = km at *
  change p = (j : Int) at e1
  subst e1 e2
  have hlt : j < k → k - (j + 1) < mu I (((j : Int), ()), q) := fun h => by rw [hkk, hk2]; exact sub_dec h
  clear hI
  refine ifP_of (fun h1 => ?_) (fun _ => ⟨rfl, rfl⟩)
  have hjk : j < k := by have := of_decide_eq_true h1; omega
  refine A.at (ints_get hjk) fun a ha => B.at (ints_get hjk) fun b hb => ⟨_, ha, _, hb, ?_⟩
  rw [he j hjk]
  refine ifP_of (fun h => by simp at h) (fun _ => ?_)
  rw [i64_inc (by omega)]
  exact mu_next (I := I) (k := k - (j + 1)) ⟨j + 1, rfl, hjk, rfl, rfl⟩ (hlt hjk)
end

/-- The graph of awake. -/
def esB (i : Nat) : Ed := match i with
  | 0 => ⟨0, 1, 9, 5⟩
  | _ => ⟨0, 1, 2, 3⟩
def bB (x y : Int) (i : Nat) : Int := match i with
  | 0 => x
  | _ => y
theorem esB_w : ∀ k : Nat, k < 4 → 1 ≤ k → wrong14 2 2 esB 2 (bB 3 (-3)) k = 0 ∧ wrong14 2 2 esB 2 (bB (-1) 1) k = 0 := by decide
theorem esB_out (f : Nat → Int) : OutF 2 (frE esB) (toE esB) f 0 = f 0 + f 1 := by
  show (0 + ((f 0) - 0)) + ((f 1) - 0) = _; omega
theorem esB_tot (f : Nat → Int) : totC 2 (ckE esB) f = 5 * f 0 + 3 * f 1 := by
  show (0 + 5 * f 0) + 3 * f 1 = _; omega
theorem esB_plan : PlanP 2 2 (frE esB) (toE esB) (cpE esB) (bB 3 (-3)) (bB 1 2) := ⟨by decide, by decide⟩
theorem esB_no (g : Nat → Int) : ¬ PlanP 2 2 (frE esB) (toE esB) (cpE esB) (bB (-1) 1) g := fun P => by
  have h := P.out 0 (by omega)
  rw [esB_out] at h
  have a := (P.cp 0 (by omega)).1
  have b := (P.cp 1 (by omega)).1
  change g 0 + g 1 = -1 at h
  omega
theorem Bl.rs {h : H} {b : Nat} {vs : List Value} (B : Bl h b vs) : RS h (.slice (some (bk b)) vs.length vs.length) vs := by
  refine ⟨_, _, rfl, fun j x hj => ⟨_, rfl, ?_⟩⟩
  rw [Nat.mul_one]; exact B.ld hj
section
variable {h : H} {own : Own} {n m l : Nat} {es : Nat → Ed} {bf f p : Nat → Int} {vs von vp : Value}
theorem PlanR.one (P : PlanR own h n m es bf vs von vp f p) : ∀ v ∈ plV vs von vp, v.oneCell' = true := by
  intro v hv
  simp only [List.mem_cons, List.not_mem_nil, or_false] at hv
  rcases hv with rfl | rfl | rfl
  · exact P.s.one
  · exact P.o.one
  · exact P.po.one
/-- What the awakened program answers to what can't be wrong. -/
theorem awake14_R : T Try.prog F.compasslaw14_awake [] h fun r h' => r = .ret (.bool true) ∧ Ext h h' := by
  refine E_compasslaw14_awake ?_
  unfold B_compasslaw14_awake
  refine ⟨rfl, rfl, new_bl ?_⟩
  intro b1 q1 hb1 x1 B1_
  have Gv : Gs q1 (.slice (some (bk b1)) 2 2) 2 esB := by
    refine ⟨_, _, rfl, fun i hi => ⟨_, rfl, fun j v hj => ?_⟩⟩
    rw [bk_add, bk_add2, ← bk_add]
    refine B1_.ld ?_
    match i, hi with
    | 0, _ => match j, hj with
      | 0, hj => exact hj
      | 1, hj => exact hj
      | 2, hj => exact hj
      | 3, hj => exact hj
    | 1, _ => match j, hj with
      | 0, hj => exact hj
      | 1, hj => exact hj
      | 2, hj => exact hj
      | 3, hj => exact hj
  refine new_bl_st rfl rfl (by simp [Value.oneCell']) ?_
  intro b3 q5 hb3 x5 B3
  have x15 := x1.trans' x5
  have Gv := Gv.ext x5
  let I : (Int × Unit) → H → Nat → Prop := fun p q z => ∃ j : Nat, p.1 = j ∧ 1 ≤ j ∧ j ≤ 4 ∧ z = 4 - j ∧ Ext q5 q
  refine ⟨fun p q => ∃ k, I p q k, rk I, rk_wf I, ⟨_, 1, rfl, by omega, by omega, rfl, Ext.refl _⟩, ?_⟩
  intro p q hI
  obtain ⟨j, e1, hj1, hj, hk2, xq⟩ := mu_spec hI
  generalize hkk : mu I ((p, ()), q) = km at *
  change p = (j : Int) at e1
  subst e1
  have hlt : j < 4 → 4 - (j + 1) < mu I (((j : Int), ()), q) := fun h => by rw [hkk, hk2]; exact sub_dec h
  clear hI
  refine ifP_of (fun h1 => ?_) (fun _ => ⟨rfl, x15.trans' xq⟩)
  have hj4 : j < 4 := by have := of_decide_eq_true h1; omega
  obtain ⟨w1, w2⟩ := esB_w j hj4 hj1
  refine (B3.ext xq).ldN rfl (new_bl ?_)
  intro b11 q12 hb11 x12 B11
  have xa := xq.trans' x12
  refine (MSolve_T ((Gv.ext xa).gr 2) (l := 2) (bf := bB 3 (-3)) B11.rs j).mono ?_
  rintro _ q14 ⟨x14, hr⟩
  rcases hr with ⟨h, _⟩ | ⟨_, _, _, hr⟩
  · exact absurd w1 h
  rcases hr with ⟨own, vs, von, vp, f, p, rfl, bs, P⟩ | ⟨bs, sd, rfl, _, _, hl⟩
  rotate_left
  · have := esB_plan.side (by decide) (fun v => sd v = true)
    have e : (sumN 2 fun v => if sd v = true then bB 3 (-3) v else 0) = sumN 2 fun v => @ite Int (sd v = true) (Classical.propDecidable _) (bB 3 (-3) v) 0 := sumN_congr fun v _ => by by_cases h : sd v = true <;> simp [h]
    rw [e] at hl
    omega
  -- the plan is the cheapest one
  have h3 := P.pl.out 0 (by omega)
  rw [esB_out] at h3
  change f 0 + f 1 = 3 at h3
  have h4 := P.pl.best esB_plan (by decide) P.pt
  rw [esB_tot, esB_tot] at h4
  change 5 * f 0 + 3 * f 1 ≤ 5 * 1 + 3 * 2 at h4
  have h5 := P.pl.cp 1 (by omega)
  change 0 ≤ f 1 ∧ f 1 ≤ 2 at h5
  have f1 : f 1 = 2 := by omega
  have f0 : f 0 = 1 := by omega
  have ht : totC 2 (ckE esB) f = 11 := by rw [esB_tot]; omega
  refine rt_ret ⟨_, rfl, _, _, _, rfl, new_bl_st rfl rfl P.one ?_⟩
  intro b19 q20 hb19 x20 B19
  have xb := (xa.trans' x14).trans' x20
  refine (B3.ext xb).ldN rfl (new_bl ?_)
  intro b23 q24 hb23 x24 B23
  have xc := xb.trans' x24
  refine (MSolve_T ((Gv.ext xc).gr 2) (l := 2) (bf := bB (-1) 1) B23.rs j).mono ?_
  rintro _ q26 ⟨x26, hr⟩
  rcases hr with ⟨h, _⟩ | ⟨_, _, _, hr⟩
  · exact absurd w2 h
  rcases hr with ⟨_, _, _, _, g, _, _, _, P2⟩ | ⟨bs2, sd, rfl, _, _, hl⟩
  · exact absurd P2.pl (esB_no g)
  refine rt_ret ⟨_, rfl, _, _, _, rfl, new_bl_st rfl rfl plZ_one ?_⟩
  intro b31 q32 hb31 x32 B31
  have xd := (x24.trans' x26).trans' x32
  have B19 := B19.ext xd
  have So := ((RS.of_S1 P.o).ext x20).ext xd
  rw [ht]
  refine ifP_of (fun h => by simp at h) (fun _ => ifP_of (fun h => by simp at h) (fun _ => ⟨_, B19.ld rfl, So.len (ints_length _ _) fun _ _ => ifP_of (fun h => by simp at h) (fun _ => ⟨_, B19.ld rfl, So.rdI (j := 0) (by omega) ?_⟩)⟩))
  rw [f0]
  refine ifP_of (fun h => by simp at h) (fun _ => ⟨_, B19.ld rfl, So.rdI (j := 1) (by omega) ?_⟩)
  rw [f1]
  refine ifP_of (fun h => by simp at h) (fun _ => ifP_of (fun h => by simp at h) (fun _ => slcP_mk (ifP_of (fun h => by simp at h) (fun _ => ?_))))
  rw [i64_inc (by omega)]
  exact mu_next (I := I) (k := 4 - (j + 1)) ⟨j + 1, rfl, by omega, hj4, rfl, xb.trans' xd⟩ (hlt hj4)
end

end Go.Proofs.Ytkdnnfpmppmmcaa

namespace Go.Proofs.Ytkdnnfpmppmmcaa
open Go
set_option linter.unusedVariables false
set_option linter.unusedSimpArgs false

section
variable {h : H} {w : List Value} {n : Int} {m l : Nat} {es : Nat → Ed} {sv : Value} {bf : Nat → Int}
theorem PlanP.none_ {sd : Nat → Bool} {f : Nat → Int} (gd : Gd l m es) (P : PlanP l m (frE es) (toE es) (cpE es) bf f) : ¬ cutC m (frE es) (toE es) (cpE es) (fun v => sd v = true) < sumN l fun v => if sd v = true then bf v else 0 := fun hl => by
  have := P.side gd.ends (fun v => sd v = true)
  have e : (sumN l fun v => if sd v = true then bf v else 0) = sumN l fun v => @ite Int (sd v = true) (Classical.propDecidable _) (bf v) 0 := sumN_congr fun v _ => by by_cases h : sd v = true <;> simp [h]
  rw [e] at hl
  omega
end

end Go.Proofs.Ytkdnnfpmppmmcaa

namespace Go.Proofs.Ytkdnnfpmppmmcaa
open Go Go.ChangeShapes Go.WideShapes Go.Deep Go.RowKit
set_option linter.unusedVariables false

/-- What a world's heap holds, all of it. -/
def hOf (w : World) : H := fun b => w.heap[b]?
theorem hOf_sub (w : World) : Sub (hOf w) w := fun _ _ h => h
theorem hOf_cell {w : World} {a : Addr} {v : Value} (h : w.cell? a = some v) : hcell (hOf w) a = some v := by
  exact h

theorem T.row {P : Program} {f : FuncId} {args : List Value} {w : World} (t : T P f args (hOf w) fun r h' => r = .ret (.bool true) ∧ Ext (hOf w) h') :
    Calls P f args.toArray w fun e w' => e = .returned (.bool true) ∧ Below w.heap.size w w' := by
  refine (t.2 w (hOf_sub w)).mono ?_
  rintro e w' ⟨h', hs, st, hq⟩
  have hr : e = .returned (.bool true) ∧ Ext (hOf w) h' := by
    split at hq
    · obtain ⟨h1, h2⟩ := hq
      cases h1
      exact ⟨rfl, h2⟩
    · obtain ⟨h1, _⟩ := hq
      cases h1
    · exact hq.elim
  refine ⟨hr.1, ⟨st.same.1, st.same.2.1, st.same.2.2, st.size, fun k hk => ?_⟩⟩
  have e1 : w.heap[k]? = some (w.heap[k]'hk) := Array.getElem?_eq_getElem hk
  rw [e1]
  exact hs k _ (hr.2 k _ e1)

def intFields (P : Program) (fs : Array Field) : Bool := (List.range fs.size).all fun i => match fs[i]? with
  | some f => match P.underlying f.type with
    | some (.int .i64) => true
    | _ => false
  | none => false
theorem intFields_of {P : Program} {fs : Array Field} (h : intFields P fs = true) : ∀ (i : Nat) (f : Field), fs[i]? = some f → P.underlying f.type = some (.int .i64) := by
  intro i f hi
  have hlt : i < fs.size := (Array.getElem?_eq_some_iff.1 hi).1
  have := List.all_eq_true.1 h i (List.mem_range.2 hlt)
  simp only [hi] at this
  split at this
  · assumption
  · cases this

end Go.Proofs.Ytkdnnfpmppmmcaa

namespace Go.Proofs.Ytkdnnfpmppmmcaa
open Go Go.ChangeShapes Go.WideShapes Go.Deep Go.RowKit
set_option linter.unusedVariables false

section
variable {K : Type} {enc : TypeId × Value → K} {P : Program} {w : World} {base : Nat} {spare : Nat → Bool} {held : Bool}

/-- A slice of records of whole numbers, wherever it lies. -/
theorem open_recsN {t e : TypeId} {fs : Array Field} {B fuel : Nat} {cs : List Value} {x : DataW K × List MemPlace}
    (ht : P.underlying t = some (.slice e)) (he : P.underlying e = some (.struct fs)) (hone : oneCellFields P fs = true) (hint : intFields P fs = true) (hC : P.cellsOf e = fs.size) (hB : P.bytesOf e = B)
    (hsz : ∀ el sp, x.1 = .slice el sp → (el.length + sp.length) * B ≤ 140737488351232)
    (hf : DataW.trod enc P w base spare held fuel t cs = some x) :
    ∃ a len cap, cs = [.slice a len cap] ∧ len * B ≤ 140737488351232 ∧ ∀ i, i < len → ∃ ad, a = some ad ∧ ∀ j, j < fs.size → ∃ n : Int, w.cell? (ad.add (i * fs.size + j)) = some (.int .i64 n) := by
  rcases open_slice ht hf with ⟨hcs, _⟩ | ⟨x', l, c, m, n, D, Pl, hcs, _, hl, _, hm, hx, hi⟩
  · exact ⟨none, 0, 0, hcs, by simp, fun i hi => by omega⟩
  · have hlm : l ≤ m := by
      rw [hm]
      split
      · exact hl
      · exact Nat.le_refl _
    refine ⟨some x', l, c, hcs, ?_, fun i hil => ⟨x', rfl, fun j hj => ?_⟩⟩
    · have z := hsz _ _ (by rw [hx])
      simp only [List.length_map, List.length_range] at z
      calc l * B ≤ (l + (m - l)) * B := Nat.mul_le_mul_right _ (by omega)
        _ ≤ _ := z
    · obtain ⟨cs', hc, ht'⟩ := hi i (by omega)
      rw [hC] at hc
      obtain ⟨ys, n', _, _, hlen, hyl, hg⟩ := DataW.trod_struct he ht'
      obtain ⟨_, hcl, hat⟩ := World.cells?_some hc
      have hfj : fs[j]? = some (fs[j]'hj) := Array.getElem?_eq_getElem hj
      obtain ⟨ho, hk⟩ := hone_of hone j _ hfj
      have hw1 := hg j _ hfj
      rw [ho, hk] at hw1
      have one : (cs'.drop j).take 1 = [cs'[j]'(by omega)] := by
        rw [List.drop_eq_getElem_cons (by omega)]
        rfl
      rw [one, List.getElem?_eq_getElem (by omega)] at hw1
      obtain ⟨z, hz, _, _⟩ := DataW.trod_int (intFields_of hint j _ hfj) hw1
      refine ⟨z, ?_⟩
      rw [← Go.Deep.add_add, hat j hj, List.getElem?_eq_getElem (by omega)]
      simpa using hz

theorem open_struct2 {r : Reach} {b0 : Nat} {t : TypeId} {f0 f1 : Field} {v : Value} {d : DataW K} {p : List MemPlace} (hs : P.underlying t = some (.struct #[f0, f1])) (hone : oneCellFields P #[f0, f1] = true) (hC : P.cellsOf t = 2)
    (hv : Value.okWide P w r b0 t v) (h : DataW.Trod enc P w base spare held t v d p) :
    ∃ (v0 v1 : Value) (y0 y1 : DataW K × List MemPlace) (n : Nat), v = .agg ⟨[v0, v1]⟩ ∧ d = .agg [y0.1, y1.1] ∧
      DataW.trod enc P w base spare held n f0.type [v0] = some y0 ∧ DataW.trod enc P w base spare held n f1.type [v1] = some y1 := by
  obtain ⟨cs, rfl, hsz⟩ := okWide_struct hs hv
  obtain ⟨l⟩ := cs
  match l, hsz.trans hC with
  | [c0, c1], _ =>
    obtain ⟨fuel, hf⟩ := h
    obtain ⟨xs, n, _, hx, _, hlen, hg⟩ := DataW.trod_struct hs hf
    obtain ⟨o0, k0⟩ := hone_of hone 0 f0 rfl
    obtain ⟨o1, k1⟩ := hone_of hone 1 f1 rfl
    match xs, hlen with
    | [y0, y1], _ =>
      simp only [Prod.mk.injEq] at hx
      exact ⟨c0, c1, y0, y1, n, rfl, by simpa using hx.1, by simpa [Value.cells, o0, k0] using hg 0 f0 rfl, by simpa [Value.cells, o1, k1] using hg 1 f1 rfl⟩
end

/-- Edges read are edges. -/
theorem Gs.of_cells {W : World} {a : Option Addr} {len cap : Nat} (h : ∀ i, i < len → ∃ ad, a = some ad ∧ ∀ j, j < 4 → ∃ n : Int, W.cell? (ad.add (i * 4 + j)) = some (.int .i64 n)) :
    ∃ es, Gs (hOf W) (.slice a len cap) len es := by
  have h2 : ∀ i, ∃ o : Ed, i < len → ∃ ad, a = some ad ∧ hcells (hOf W) (ad.add (i * 4)) o.vs := by
    intro i
    by_cases hi : i < len
    · obtain ⟨ad, rfl, hc⟩ := h i hi
      obtain ⟨n0, h0⟩ := hc 0 (by decide)
      obtain ⟨n1, h1⟩ := hc 1 (by decide)
      obtain ⟨n2, h2⟩ := hc 2 (by decide)
      obtain ⟨n3, h3⟩ := hc 3 (by decide)
      refine ⟨⟨n0, n1, n2, n3⟩, fun _ => ⟨ad, rfl, fun j v hj => ?_⟩⟩
      rw [Go.Deep.add_add]
      match j, hj with
      | 0, hj => cases hj; exact hOf_cell h0
      | 1, hj => cases hj; exact hOf_cell h1
      | 2, hj => cases hj; exact hOf_cell h2
      | 3, hj => cases hj; exact hOf_cell h3
    · exact ⟨⟨0, 0, 0, 0⟩, fun h => absurd h hi⟩
  exact ⟨fun i => Classical.choose (h2 i), a, cap, rfl, fun i hi => Classical.choose_spec (h2 i) hi⟩

end Go.Proofs.Ytkdnnfpmppmmcaa

namespace Go.Proofs.Ytkdnnfpmppmmcaa
open Go Go.ChangeShapes Go.WideShapes Go.Deep Go.RowKit
set_option linter.unusedVariables false

theorem wf_rng {n : Int} (h : (Lit.int .i64 n).wf = true) : -9223372036854775808 ≤ n ∧ n ≤ 9223372036854775807 := by
  have h2 : (decide (IntKind.i64.min ≤ n) && decide (n ≤ IntKind.i64.max)) = true := h
  rw [Bool.and_eq_true] at h2
  have a := of_decide_eq_true h2.1
  have b := of_decide_eq_true h2.2
  exact ⟨a, b⟩
section
variable {K : Type} {enc : TypeId × Value → K} {P : Program} {w : World} {base : Nat} {spare : Nat → Bool} {held : Bool}

/-- A slice of whole numbers, wherever it lies. -/
theorem open_intsN {t e : TypeId} {B fuel : Nat} {cs : List Value} {x : DataW K × List MemPlace}
    (ht : P.underlying t = some (.slice e)) (he : P.underlying e = some (.int .i64)) (hC : P.cellsOf e = 1) (hB : P.bytesOf e = B)
    (hsz : ∀ el sp, x.1 = .slice el sp → (el.length + sp.length) * B ≤ 140737488351232)
    (hf : DataW.trod enc P w base spare held fuel t cs = some x) :
    ∃ a len cap, cs = [.slice a len cap] ∧ len * B ≤ 140737488351232 ∧ ∀ i, i < len → ∃ ad, a = some ad ∧ ∃ n : Int, w.cell? (ad.add (i * 1)) = some (.int .i64 n) ∧ -9223372036854775808 ≤ n ∧ n ≤ 9223372036854775807 := by
  rcases open_slice ht hf with ⟨hcs, _⟩ | ⟨x', l, c, m, n, D, Pl, hcs, _, hl, _, hm, hx, hi⟩
  · exact ⟨none, 0, 0, hcs, by simp, fun i hi => by omega⟩
  · have hlm : l ≤ m := by
      rw [hm]
      split
      · exact hl
      · exact Nat.le_refl _
    refine ⟨some x', l, c, hcs, ?_, fun i hil => ⟨x', rfl, ?_⟩⟩
    · have z := hsz _ _ (by rw [hx])
      simp only [List.length_map, List.length_range] at z
      calc l * B ≤ (l + (m - l)) * B := Nat.mul_le_mul_right _ (by omega)
        _ ≤ _ := z
    · obtain ⟨cs', hc, ht'⟩ := hi i (by omega)
      rw [hC] at hc
      obtain ⟨z, hz, _, hwf⟩ := DataW.trod_int he ht'
      obtain ⟨_, hcl, hat⟩ := World.cells?_some hc
      refine ⟨z, ?_, wf_rng hwf⟩
      have := hat 0 (by omega)
      rw [hz] at this
      simpa [Addr.add] using this
theorem open_ints {t e : TypeId} {a : Option Addr} {len cap B j : Nat} {d : DataW K} {ps : List MemPlace} {ts : List TypeId} {ds : List (DataW K)}
    (ht : P.underlying t = some (.slice e)) (he : P.underlying e = some (.int .i64)) (hC : P.cellsOf e = 1) (hB : P.bytesOf e = B)
    (hsz : (DataW.weightsEach P ts ds).all (· ≤ reachBytes) = true) (hj : ts[j]? = some t) (hd : ds[j]? = some d)
    (h : DataW.Trod enc P w base spare held t (.slice a len cap) d ps) :
    len * B ≤ 140737488351232 ∧ ∀ i, i < len → ∃ ad, a = some ad ∧ ∃ n : Int, w.cell? (ad.add (i * 1)) = some (.int .i64 n) ∧ -9223372036854775808 ≤ n ∧ n ≤ 9223372036854775807 := by
  obtain ⟨fuel, hf⟩ := h
  have hf' := hf
  rcases open_slice ht hf with ⟨hcs, _⟩ | ⟨x, l, c, m, n, D, Pl, hcs, _, hl, _, hm, hx, hi⟩
  · simp [Value.cells] at hcs
    obtain ⟨rfl, rfl, rfl⟩ := hcs
    exact ⟨by simp, fun i hi => by omega⟩
  · have hd' : ∀ el sp, d = .slice el sp → (el.length + sp.length) * B ≤ 140737488351232 := by
      rintro el sp rfl
      have z := sized_slice hsz hj hd ht
      rw [hB] at z
      exact z
    obtain ⟨a', len', cap', hcs', h1, h2⟩ := open_intsN (B := B) ht he hC hB hd' hf'
    simp [Value.cells] at hcs'
    obtain ⟨rfl, rfl, rfl⟩ := hcs'
    exact ⟨h1, h2⟩
end

/-- Numbers read are numbers. -/
theorem RS.of_cells {W : World} {a : Option Addr} {len cap : Nat} (h : ∀ i, i < len → ∃ ad, a = some ad ∧ ∃ n : Int, W.cell? (ad.add (i * 1)) = some (.int .i64 n) ∧ -9223372036854775808 ≤ n ∧ n ≤ 9223372036854775807) :
    ∃ bf : Nat → Int, RS (hOf W) (.slice a len cap) (ints len bf) ∧ ∀ i, i < len → -9223372036854775808 ≤ bf i ∧ bf i ≤ 9223372036854775807 := by
  have h2 : ∀ i, ∃ o : Int, i < len → ∃ ad, a = some ad ∧ hcell (hOf W) (ad.add (i * 1)) = some (.int .i64 o) ∧ -9223372036854775808 ≤ o ∧ o ≤ 9223372036854775807 := by
    intro i
    by_cases hi : i < len
    · obtain ⟨ad, rfl, n, hn, hr⟩ := h i hi
      exact ⟨n, fun _ => ⟨ad, rfl, hOf_cell hn, hr⟩⟩
    · exact ⟨0, fun h => absurd h hi⟩
  refine ⟨fun i => Classical.choose (h2 i), ⟨a, cap, by rw [ints_length], fun j x hj => ?_⟩, fun i hi => by obtain ⟨_, _, _, hr⟩ := Classical.choose_spec (h2 i) hi; exact hr⟩
  have hl := (List.getElem?_eq_some_iff.1 hj).1
  rw [ints_length] at hl
  rw [ints_get hl] at hj
  cases hj
  obtain ⟨ad, e, hc, _⟩ := Classical.choose_spec (h2 j) hl
  exact ⟨ad, e, hc⟩

end Go.Proofs.Ytkdnnfpmppmmcaa

