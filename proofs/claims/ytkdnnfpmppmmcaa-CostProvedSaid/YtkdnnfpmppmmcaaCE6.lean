import Derived.Test.YtkdnnfpmppmmcaaProg
import Derived.Test.YtkdnnfpmppmmcaaCE5
namespace Go.Proofs.Ytkdnnfpmppmmcaa
open Go Go.ChangeShapes Go.WideShapes Go.ChangeAt Go.RowKit
set_option linter.unusedVariables false

theorem own : ownKnob Try.prog.godebug = none := by kernel_rfl
theorem laidOut : laidOutB Try.prog = true := by kernel_rfl

end Go.Proofs.Ytkdnnfpmppmmcaa

namespace Go.Proofs.Ytkdnnfpmppmmcaa
open Go
set_option linter.unusedVariables false
set_option linter.unusedSimpArgs false

/-- One number is appended, however long the slice is. -/
theorem S1.push1 {own : Own} {h : H} {i ex : Nat} {p z x : Value} {vs : List Value} {K : Nat → H → Value → H → Prop} {e bytes : Nat} (s : S1 own h i p vs)
    (one : x.oneCell' = true) (hb : bytes ≤ 8) (hl : vs.length ≤ 17592186044416)
    (k : ∀ bx hm p' own' h', h bx = none → Ext h hm → Fm [i] own h own' h' → S1 own' h' i p' (vs ++ [x]) → K bx hm p' h') :
    newP h (.cells ⟨[x]⟩ ex (0, 0)) fun bx hm => apP p (.slice (some (bk bx)) 1 1) hm 1 e bytes [z] (K bx hm) := by
  refine new_put ?_
  intro bx hm hbx xm hx
  have hsrc : srcP hm (some (bk bx)) (1 * 1) [x] := by
    refine ⟨rfl, fun j v hj => ?_⟩
    rw [bk_add, hcell_at hx, List.getElem?_toArray]
    exact hj
  have hzl : ∀ m, (zrep [z] m).length = m := by intro m; simp [zrep]
  rcases s with ⟨rfl, rfl⟩ | ⟨b, hob, c, eb, zs, rfl, h2, h3⟩
  · refine ⟨[x], hsrc, fun hle => by omega, fun hlt => ⟨?_, [], ⟨rfl, rfl⟩, fun cap hcap => ?_⟩⟩
    · have := nextcap_le hlt
      calc _ ≤ (2 * (0 + 1) + 192) * bytes := Nat.mul_le_mul_right _ this
        _ ≤ (2 * (0 + 1) + 192) * 8 := Nat.mul_le_mul_left _ hb
        _ ≤ _ := by omega
    · refine new_put ?_
      intro b g hbn x1 e1
      rw [Nat.zero_add] at e1 hcap ⊢
      refine k bx hm _ (own1 own b i) g hbx xm (Fm.new (xm.trans' x1) (xm.new hbn)) (.inr ⟨b, own1_at, cap, e, zrep [z] (cap - 1), rfl, by rw [e1], ?_⟩)
      rw [hzl]; simp; omega
  · have h2m := xm _ _ h2
    refine ⟨[x], hsrc, fun hle => ⟨fun _ => ?_, by simpa using one, ?_⟩, fun hlt => ⟨?_, vs, ⟨by rw [Nat.mul_one], ?_⟩, fun cap hcap => ?_⟩⟩
    · rw [bk_add]
      refine ⟨_, _, h2m, rfl, ?_⟩
      simp only [List.size_toArray, List.length_append, List.length_singleton]
      omega
    · rw [bk_add]
      have e2 : hset hm ⟨b, vs.length * 1, none⟩ [x] b = some (.cells ⟨vs ++ [x] ++ zs.drop 1⟩ eb (0, 0)) := by
        unfold hset
        rw [if_pos rfl, h2m]
        simp only [Option.map_some, Nat.mul_one]
        rw [setR_list _ _ _ (by simp; omega)]
        simp [List.take_append, List.drop_append]
      refine k bx hm _ own _ hbx xm ((Fm.of_ext xm).trans (Fm.kp (b := b) ?_ hob ⟨_, e2⟩)) (.inr ⟨b, hob, c, eb, zs.drop 1, by simp, e2, by simp; omega⟩)
      intro j o hj hh
      unfold hset
      rw [if_neg hj]; exact hh
    · have hcm : c = vs.length := by omega
      subst hcm
      calc _ ≤ (vs.length + vs.length / 4 + 600) * bytes := Nat.mul_le_mul_right _ nextcap1_le
        _ ≤ (vs.length + vs.length / 4 + 600) * 8 := Nat.mul_le_mul_left _ hb
        _ ≤ _ := by omega
    · intro j v hj
      rw [bk_add, hcell_at h2m, List.getElem?_toArray]
      have := (List.getElem?_eq_some_iff.1 hj).1
      rw [List.getElem?_append_left this]
      exact hj
    · refine new_put ?_
      intro b' g hbn x1 e1
      refine k bx hm _ (own1 own b' i) g hbx xm (Fm.new (xm.trans' x1) (xm.new hbn)) (.inr ⟨b', own1_at, cap, e, zrep [z] (cap - (vs.length + 1)), by simp, by rw [e1], ?_⟩)
      rw [hzl]; simp; omega
theorem ints_push {j : Nat} {f : Nat → Int} : ints (j + 1) f = ints j f ++ [.int .i64 (f j)] := by
  unfold ints; rw [List.range_succ, List.map_append]; rfl

end Go.Proofs.Ytkdnnfpmppmmcaa

namespace Go.Proofs.Ytkdnnfpmppmmcaa
open Go
set_option linter.unusedVariables false
set_option linter.unusedSimpArgs false

/-- The code and the cost that Solve answers. -/
def OutC (n : Int) (m : Nat) (es : Nat → Ed) (l : Nat) (bf : Nat → Int) (k : Int) (c e : Int) : Prop :=
  (wrong14 n m es l bf k ≠ 0 ∧ c = 0 ∧ e = wrong14 n m es l bf k) ∨
    (wrong14 n m es l bf k = 0 ∧ ((e = 0 ∧ ∃ f p, PlanP l m (frE es) (toE es) (cpE es) bf f ∧ PotP m (frE es) (toE es) (cpE es) (ckE es) f p ∧ c = totC m (ckE es) f) ∨ (e = 5 ∧ c = 0 ∧ ∀ g, ¬ PlanP l m (frE es) (toE es) (cpE es) bf g)))
theorem SolC.out {h h' : H} {n : Int} {m : Nat} {es : Nat → Ed} {l : Nat} {bf : Nat → Int} {k : Int} {r : Res} (S : SolC h n m es l bf k r h') :
    ∃ pl c sv e, r = .ret (.tuple ⟨[.agg ⟨pl⟩, .int .i64 c, sv, .int .i64 e]⟩) ∧ pl.length = 3 ∧ (∀ v ∈ pl, v.oneCell' = true) ∧ (∃ a l c, sv = .slice a l c) ∧ Ext h h' ∧ OutC n m es l bf k c e := by
  rcases S with ⟨x, ⟨hw, rfl⟩ | ⟨hw, hnl, gd, ⟨own, vs, von, vp, f, p, rfl, bs, P⟩ | ⟨bs, sd, rfl, _, _, hl⟩⟩⟩
  · exact ⟨_, _, _, _, rfl, rfl, plZ_one, ⟨_, _, _, rfl⟩, x, .inl ⟨hw, rfl, rfl⟩⟩
  · exact ⟨_, _, _, _, rfl, rfl, P.one, ⟨_, _, _, rfl⟩, x, .inr ⟨hw, .inl ⟨rfl, f, p, P.pl, P.pt, rfl⟩⟩⟩
  · exact ⟨_, _, _, _, rfl, rfl, plZ_one, ⟨_, _, _, rfl⟩, x, .inr ⟨hw, .inr ⟨rfl, rfl, fun g Pg => Pg.none_ gd hl⟩⟩⟩
section
variable {n : Int} {m l : Nat} {es : Nat → Ed} {bf : Nat → Int} {k c e d f : Int}
theorem OutC.c0 (O : OutC n m es l bf k c e) (h : e ≠ 0) : c = 0 := by
  rcases O with ⟨_, h, _⟩ | ⟨_, ⟨h2, _⟩ | ⟨_, h, _⟩⟩
  · exact h
  · exact absurd h2 h
  · exact h
theorem OutC.ok (O : OutC n m es l bf k c e) (h : e = 0) : wrong14 n m es l bf k = 0 ∧ ∃ f p, PlanP l m (frE es) (toE es) (cpE es) bf f ∧ PotP m (frE es) (toE es) (cpE es) (ckE es) f p ∧ c = totC m (ckE es) f := by
  rcases O with ⟨h1, _, h2⟩ | ⟨h1, ⟨_, h2⟩ | ⟨h2, _⟩⟩
  · rw [h] at h2; exact absurd h2.symm h1
  · exact ⟨h1, h2⟩
  · omega
end
end Go.Proofs.Ytkdnnfpmppmmcaa

namespace Go.Proofs.Ytkdnnfpmppmmcaa
open Go
set_option linter.unusedVariables false
set_option linter.unusedSimpArgs false

section
variable {h : H} {w : List Value} {n m l : Nat} {es : Nat → Ed} {sv on pot side : Value} {bf f p : Nat → Int} {sd : Nat → Bool}
theorem psup_T (G : GrA h w n m es) (hn : n ≤ 1024) (Z : RS h sv (ints l bf)) : T Try.prog F.proof_supplied [.agg ⟨w⟩, sv] h fun r h' => Ext h h' ∧ ((supOK n l bf ∧ r = .ret (.tuple ⟨[]⟩)) ∨ (¬ supOK n l bf ∧ ∃ c, r = .pan (gvV c))) := by
  refine E_proof_supplied ?_
  unfold B_proof_supplied
  refine new_bl ?_
  intro b1 q1 hb1 x1 B
  obtain ⟨gv, rfl, Gv⟩ := G.gs
  have Z := Z.ext x1
  refine Z.len (ints_length _ _) fun _ _ => ⟨_, B.ld rfl, ?_⟩
  refine (need_T q1 _ 130).mono ?_
  rintro r _ ⟨rfl, ⟨h1, rfl⟩ | ⟨h1, rfl⟩⟩
  rotate_left
  · exact ⟨x1, .inr ⟨fun hs => by have := hs.1; simp at h1; omega, _, rfl⟩⟩
  have hln : n = l := by simp at h1; omega
  refine rt_ret ⟨rfl, Z.len (ints_length _ _) fun _ _ => ?_⟩
  let I : (Int × Int × Unit) → H → Nat → Prop := fun p q z => ∃ j : Nat, p.2.1 = j ∧ j ≤ l ∧ z = l - j ∧ q = q1 ∧ p.1 = sumN j bf ∧ ∀ v, v < j → -1048576 ≤ bf v ∧ bf v ≤ 1048576
  refine ⟨fun p q => ∃ k, I p q k, rk I, rk_wf I, ⟨_, 0, rfl, by omega, rfl, rfl, rfl, fun v hv => by omega⟩, ?_⟩
  intro sm p q hI
  obtain ⟨j, e1, hj, hz, e2, e3, hb⟩ := mu_spec hI
  generalize hkk : mu I ((sm, p, ()), q) = km at *
  change p = (j : Int) at e1
  change sm = sumN j bf at e3
  subst e1 e2 e3
  have hlt : j < l → l - (j + 1) < mu I ((sumN j bf, (j : Int), ()), q) := fun h => by rw [hkk, hz]; exact sub_dec h
  clear hI
  refine ifP_of (fun h2 => ?_) (fun h2 => ?_)
  · have hjl : j < l := by have := of_decide_eq_true h2; omega
    refine Z.rdI hjl (ifP_of (fun h3 => ?_) (fun h3 => ?_))
    · have h3 := of_decide_eq_true h3
      refine (need_T q _ 130).mono ?_
      rintro r _ ⟨rfl, ⟨h4, rfl⟩ | ⟨h4, rfl⟩⟩
      · have h4 := of_decide_eq_true h4
        have sb := sumN_bd2 hb
        have ew : IntKind.i64.wrap (sumN j bf + bf j) = sumN (j + 1) bf := w64_in (by omega) (by omega)
        refine rt_ret ⟨rfl, ?_⟩
        rw [ew, i64_inc (by omega)]
        refine mu_next (I := I) (k := l - (j + 1)) ⟨j + 1, rfl, hjl, rfl, rfl, rfl, fun v hv => ?_⟩ (hlt hjl)
        by_cases e : v = j
        · subst e; omega
        · exact hb v (by omega)
      · exact ⟨x1, .inr ⟨fun hs => by have := hs.2.1 j hjl; have := of_decide_eq_false h4; omega, _, rfl⟩⟩
    · have h3 := of_decide_eq_false h3
      refine (need_no rfl).mono ?_
      rintro _ _ ⟨rfl, rfl⟩
      exact ⟨x1, .inr ⟨fun hs => by have := hs.2.1 j hjl; omega, _, rfl⟩⟩
  · have : j = l := by have := of_decide_eq_false h2; omega
    subst this
    refine (need_T q _ 130).mono ?_
    rintro r _ ⟨rfl, ⟨h4, rfl⟩ | ⟨h4, rfl⟩⟩
    · exact rt_ret ⟨rfl, x1, .inl ⟨⟨by omega, hb, by simpa using h4⟩, rfl⟩⟩
    · exact ⟨x1, .inr ⟨fun hs => by have := hs.2.2; simp at h4; omega, _, rfl⟩⟩
theorem pred_T (G : GrA h w n m es) (gd : Gd n m es) (P : RS h pot (ints n p)) (pb : ∀ v, v < n → -4398046511104 ≤ p v ∧ p v ≤ 4398046511104) :
    T Try.prog F.proof_reduced [.agg ⟨w⟩, pot, .int .i64 1] h fun r h' => ∃ v, r = .ret v ∧ Ext h h' ∧ RS h' v (ints m fun i => (es i).k + p (frE es i) - p (toE es i)) := by
  have n1 := gd.n1
  have m1 := gd.m1
  refine E_proof_reduced ?_
  unfold B_proof_reduced
  refine new_bl ?_
  intro b1 q1 hb1 x1 B
  obtain ⟨gv, rfl, Gv⟩ := G.gs
  have P := P.ext x1
  have Gv := Gv.ext x1
  refine P.len (ints_length _ _) fun _ _ => ⟨_, B.ld rfl, (need_ok (by simp)).mono ?_⟩
  rintro _ _ ⟨rfl, rfl⟩
  refine rt_ret ⟨rfl, P.len (ints_length _ _) fun _ _ => ?_⟩
  let I : (Int × Unit) → H → Nat → Prop := fun p q z => ∃ j : Nat, p.1 = j ∧ j ≤ n ∧ z = n - j ∧ q = q1
  refine ⟨fun p q => ∃ k, I p q k, rk I, rk_wf I, ⟨_, 0, rfl, by omega, rfl, rfl⟩, ?_⟩
  intro pp q hI
  obtain ⟨j, e1, hj, hz, e2⟩ := mu_spec hI
  generalize hkk : mu I ((pp, ()), q) = km at *
  change pp = (j : Int) at e1
  subst e1 e2
  have hlt : j < n → n - (j + 1) < mu I (((j : Int), ()), q) := fun h => by rw [hkk, hz]; exact sub_dec h
  clear hI
  refine ifP_of (fun h1 => ?_) (fun _ => ?_)
  · have hjn : j < n := by have := of_decide_eq_true h1; omega
    have pj := pb j hjn
    rw [i64_inc (by omega)]
    refine P.rdI hjn (ifP_of (fun _ => (need_ok (by simp; omega)).mono ?_) (fun h => by have := of_decide_eq_false h; omega))
    rintro _ _ ⟨rfl, rfl⟩
    exact rt_ret ⟨rfl, mu_next (I := I) (k := n - (j + 1)) ⟨j + 1, rfl, hjn, rfl, rfl⟩ (hlt hjn)⟩
  refine ⟨_, B.ld rfl, Gv.len fun _ _ => ⟨by omega, by omega, by omega, by omega, new_put ?_⟩⟩
  intro b30 q30 hb30 x30 h30
  rw [Int.toNat_natCast] at h30
  have kO : S1 (own1 (fun _ => 0) b30 1) q30 1 (.slice (some (bk b30)) 0 m) [] := .inr ⟨b30, own1_at, m, 2, zrep [.int .i64 0] m, rfl, h30, by simp [zrep]⟩
  have bs : Bs q (own1 (fun _ => 0) b30 1) q30 := Bs.start.new x30 hb30
  generalize own1 (fun _ => 0) b30 1 = ow at *
  refine ⟨_, (B.ext x30).ld rfl, (Gv.ext x30).len fun _ _ => ?_⟩
  simp only [Int.toNat_natCast]
  let I2 : (Value × Int × Unit) → H → Nat → Prop := fun pp q' z => ∃ (i : Nat) (ow : Own), pp.2.1 = i ∧ i ≤ m ∧ z = m - i ∧ Bs q ow q' ∧ S1 ow q' 1 pp.1 (ints i fun i => (es i).k + p (frE es i) - p (toE es i))
  refine ⟨fun pp q => ∃ k, I2 pp q k, rk I2, rk_wf I2, ⟨_, 0, ow, rfl, by omega, rfl, bs, kO⟩, ?_⟩
  clear bs kO
  intro ov pp q2 hI
  obtain ⟨i, ow, e1, hi, hz2, bs, kO⟩ := mu_spec hI
  generalize hkk2 : mu I2 ((ov, pp, ()), q2) = km2 at *
  change pp = (i : Int) at e1
  change S1 ow q2 1 ov _ at kO
  subst e1
  have hlt2 : i < m → m - (i + 1) < mu I2 ((ov, (i : Int), ()), q2) := fun h => by rw [hkk2, hz2]; exact sub_dec h
  clear hI
  refine ifP_of (fun h1 => ?_) (fun h1 => ?_)
  · have him : i < m := by have := of_decide_eq_true h1; omega
    have ef := gd.fr him
    have et := gd.to him
    have kb := gd.k i him
    have p1 := pb _ ef.2
    have p2 := pb _ et.2
    refine (Gv.ext bs.ext).e4 him (new_bl_st rfl rfl (ed_one _) ?_)
    intro b43 q43 hb43 x43 B43
    have k25 : B1 (own1 ow b43 9) q43 9 b43 (es i).vs := B1.new B43
    have bs := bs.nw (j := 9) x43 hb43
    have kO := kO.nw (j := 9) x43 hb43
    generalize own1 ow b43 9 = ow at *
    have Pz := P.ext bs.ext
    refine ⟨_, k25.ld rfl, _, k25.ld rfl, ?_⟩
    rw [ef.1]
    refine Pz.rdI ef.2 ⟨_, k25.ld rfl, ?_⟩
    rw [et.1]
    refine Pz.rdI et.2 ?_
    have e1 : IntKind.i64.wrap (1 * (es i).k) = (es i).k := by rw [Int.one_mul]; exact w64_in (by omega) (by omega)
    have e2 : IntKind.i64.wrap ((es i).k + p (frE es i)) = (es i).k + p (frE es i) := w64_in (by omega) (by omega)
    have e3 : IntKind.i64.wrap ((es i).k + p (frE es i) - p (toE es i)) = (es i).k + p (frE es i) - p (toE es i) := w64_in (by omega) (by omega)
    show newP q43 (.cells ⟨[.int .i64 (IntKind.i64.wrap (IntKind.i64.wrap (IntKind.i64.wrap (1 * (es i).k) + p (frE es i)) - p (toE es i)))]⟩ 2 (0, 0)) _
    rw [e1, e2, e3]
    refine kO.push1 (by simp [Value.oneCell']) (by omega) (by rw [ints_length]; omega) ?_
    intro bx hm2 p' ow' q' hbx xm F2 kO
    have bs := bs.fm F2 (by simp <;> omega)
    rw [i64_inc (by omega)]
    refine mu_next (I := I2) (k := m - (i + 1)) ⟨i + 1, ow', rfl, him, rfl, bs, ?_⟩ (hlt2 him)
    show S1 ow' q' 1 p' (ints (i + 1) _)
    rw [ints_push]; exact kO
  · have : i = m := by have := of_decide_eq_false h1; omega
    subst this
    exact ⟨ov, rfl, x1.trans' bs.ext, RS.of_S1 kO⟩
theorem Cheap_c1 {b1 b3 b5 : Nat} (G : GrA h w n m es) (gd : Gd n m es) (hs : supOK n n bf) (A1 : Bl h b1 w) (A3 : Bl h b3 (plV sv on pot)) (A5 : Bl h b5 [.int .i64 0]) (Z : RS h sv (ints n bf)) (S : RS h on (ints m f)) (Q : RS h pot (ints n p))
    (Pl : PlanP n m (frE es) (toE es) (cpE es) bf f) (Pt : PotP m (frE es) (toE es) (cpE es) (ckE es) f p) (pb : ∀ v, v < n → -4398046511104 ≤ p v ∧ p v ≤ 4398046511104) (h0 : H) (x0 : Ext h0 h) (hb5 : h0 b5 = none)
    (G0 : GrA h0 w n m es) (S0 : RS h0 on (ints m f)) (n1_ : b1 ≠ b5) (n3_ : b3 ≠ b5) :
    T Try.prog F.proof_Cheapest_c1 [.pointer (some (bk b1)), .pointer (some (bk b3)), .pointer (some (bk b5))] h
      fun r h' => r = .ret (.tuple ⟨[]⟩) ∧ Bl h' b5 [.int .i64 (totC m (ckE es) f)] ∧ Ext h0 h' := by
  have n1 := gd.n1
  have m1 := gd.m1
  refine E_proof_Cheapest_c1 ?_
  unfold B_proof_Cheapest_c1
  refine ptrP_mk (A1.ldN G.one.1 ((right_T G).mono ?_))
  rintro _ q4 ⟨x4, ⟨_, rfl⟩ | ⟨h, _⟩⟩
  rotate_left
  · exact absurd (Gd.iff.2 gd) h
  refine rt_ret ⟨rfl, ptrP_mk ((A1.ext x4).ldN G.one.1 (ptrP_mk ⟨_, (A3.ext x4).ld rfl, (psup_T (G.ext x4) n1 (Z.ext x4)).mono ?_⟩))⟩
  rintro _ q5 ⟨x5, ⟨_, rfl⟩ | ⟨h, _⟩⟩
  rotate_left
  · exact absurd hs h
  have x := x4.trans' x5
  refine rt_ret ⟨rfl, ptrP_mk ((A1.ext x).ldN G.one.1 (ptrP_mk ⟨_, (A3.ext x).ld rfl, (carried_T (G.ext x) gd.w (S.ext x) Pl.cp).mono ?_⟩))⟩
  rintro _ q6 ⟨cv, rfl, x6, Sc⟩
  have x := x.trans' x6
  clear x4 x5 x6
  refine rt_ret (Sc.len (ints_length _ _) fun _ _ => ?_)
  let I : (Int × Unit) → H → Nat → Prop := fun p q z => ∃ j : Nat, p.1 = j ∧ j ≤ n ∧ z = n - j ∧ q = q6
  refine ⟨fun p q => ∃ k, I p q k, rk I, rk_wf I, ⟨_, 0, rfl, by omega, rfl, rfl⟩, ?_⟩
  intro pp q hI
  obtain ⟨j, e1, hj, hz, e2⟩ := mu_spec hI
  generalize hkk : mu I ((pp, ()), q) = km at *
  change pp = (j : Int) at e1
  subst e1 e2
  have hlt : j < n → n - (j + 1) < mu I (((j : Int), ()), q) := fun h => by rw [hkk, hz]; exact sub_dec h
  clear hI
  refine ifP_of (fun h1 => ?_) (fun _ => ?_)
  · have hjn : j < n := by have := of_decide_eq_true h1; omega
    rw [i64_inc (by omega)]
    refine Sc.rdI hjn (ptrP_mk ⟨_, (A3.ext x).ld rfl, (Z.ext x).rdI hjn ((need_ok (by simp; exact Pl.out j hjn)).mono ?_)⟩)
    rintro _ _ ⟨rfl, rfl⟩
    exact rt_ret ⟨rfl, mu_next (I := I) (k := n - (j + 1)) ⟨j + 1, rfl, hjn, rfl, rfl⟩ (hlt hjn)⟩
  refine ptrP_mk ((A1.ext x).ldN G.one.1 (ptrP_mk ⟨_, (A3.ext x).ld rfl, (pred_T (G.ext x) gd (Q.ext x) pb).mono ?_⟩))
  rintro _ q7 ⟨rv, rfl, x7, Sr⟩
  have x := x.trans' x7
  obtain ⟨gv, rfl, Gv⟩ := G.gs
  refine rt_ret (Sr.len (ints_length _ _) fun _ _ => ?_)
  let I2 : (Int × Unit) → H → Nat → Prop := fun p q z => ∃ j : Nat, p.1 = j ∧ j ≤ m ∧ z = m - j ∧ q = q7
  refine ⟨fun p q => ∃ k, I2 p q k, rk I2, rk_wf I2, ⟨_, 0, rfl, by omega, rfl, rfl⟩, ?_⟩
  intro pp q8 hI
  obtain ⟨i, e1, hi, hz2, e2⟩ := mu_spec hI
  generalize hkk2 : mu I2 ((pp, ()), q8) = km2 at *
  change pp = (i : Int) at e1
  subst e1 e2
  have hlt2 : i < m → m - (i + 1) < mu I2 (((i : Int), ()), q8) := fun h => by rw [hkk2, hz2]; exact sub_dec h
  clear hI
  have A3x := A3.ext x
  have A1x := A1.ext x
  have Sx := S.ext x
  refine ifP_of (fun h1 => ?_) (fun _ => ?_)
  · have him : i < m := by have := of_decide_eq_true h1; omega
    obtain ⟨c1, c2⟩ := Pt i him
    rw [i64_inc (by omega)]
    have next : (∃ k, I2 (((i + 1 : Nat) : Int), ()) q8 k) ∧ rk I2 ((((i + 1 : Nat) : Int), ()), q8) (((i : Int), ()), q8) := mu_next (I := I2) (k := m - (i + 1)) ⟨i + 1, rfl, him, rfl, rfl⟩ (hlt2 him)
    have okk : ∀ {b : Bool} {c : Int}, b = true → T Try.prog F.proof_need [.bool b, .int .i64 c] q8 (rt (fun v49 h50 => v49 = .tuple ⟨[]⟩ ∧ (∃ k, I2 (((i + 1 : Nat) : Int), ()) h50 k) ∧ rk I2 ((((i + 1 : Nat) : Int), ()), h50) (((i : Int), ()), q8)) (fun v51 h52 => (.pan v51 : Res) = .ret (.tuple ⟨[]⟩) ∧ Bl h52 b5 [.int .i64 (totC m (ckE es) f)] ∧ Ext h0 h52)) := fun hb => by
      refine (need_ok hb).mono ?_
      rintro _ _ ⟨rfl, rfl⟩
      exact rt_ret ⟨rfl, next⟩
    have low : ((es i).k + p (frE es i) - p (toE es i) < 0) → f i = (es i).c := fun h => c2 h
    refine Sr.rdI him (ifP_of (fun h2 => ifP_of (fun h3 => okk rfl) (fun h3 => ?_)) (fun h2 => ?_))
    · have h3 := of_decide_eq_false h3
      refine ptrP_mk (ptrP_mk ⟨_, A3x.ld rfl, Sx.rdI him ⟨_, A1x.ld rfl, (Gv.ext x).c him (okk (by simp; exact low (by omega)))⟩⟩)
    · have h2 := of_decide_eq_false h2
      have e0 : f i = 0 := c1 (by show 0 < (es i).k + _ - _; omega)
      refine ptrP_mk ⟨_, A3x.ld rfl, Sx.rdI him (ifP_of (fun _ => ifP_of (fun _ => okk rfl) (fun h3 => ?_)) (fun h => absurd e0 (by simpa using h)))⟩
      have := of_decide_eq_false h3
      omega
  -- what it costs
  refine ptrP_mk ⟨_, A1x.ld rfl, (Gv.ext x).len fun _ _ => ?_⟩
  have y := x0.trans' x
  obtain ⟨gv0, ew, Gv0⟩ := G0.gs
  simp only [List.cons.injEq, and_true, true_and] at ew
  subst ew
  let I3 : (Int × Unit) → H → Nat → Prop := fun p q z => ∃ j : Nat, p.1 = j ∧ j ≤ m ∧ z = m - j ∧ Ext h0 q ∧ Bl q b1 [.int .i64 n, gv] ∧ Bl q b3 (plV sv on pot) ∧ Bl q b5 [.int .i64 (totC j (ckE es) f)]
  refine ⟨fun p q => ∃ k, I3 p q k, rk I3, rk_wf I3, ⟨_, 0, rfl, by omega, rfl, y, A1x, A3x, A5.ext x⟩, ?_⟩
  intro pp q9 hI
  obtain ⟨i, e1, hi, hz3, y, A1y, A3y, A5y⟩ := mu_spec hI
  generalize hkk3 : mu I3 ((pp, ()), q9) = km3 at *
  change pp = (i : Int) at e1
  subst e1
  have hlt3 : i < m → m - (i + 1) < mu I3 (((i : Int), ()), q9) := fun h => by rw [hkk3, hz3]; exact sub_dec h
  clear hI
  refine ifP_of (fun h1 => ?_) (fun h1 => ?_)
  · have him : i < m := by have := of_decide_eq_true h1; omega
    refine (Gv0.ext y).e4 him (new_bl_st rfl rfl (ed_one _) ?_)
    intro b100 q100 hb100 x100 B100
    have A5z := A5y.ext x100
    refine ptrP_mk (ptrP_mk (ldI0 ⟨_, A5z.ld rfl, _, B100.ld rfl, _, (A3y.ext x100).ld rfl, ((S0.ext y).ext x100).rdI him (ptrP_mk ?_)⟩))
    have fb : ∀ a, a < m → 0 ≤ f a ∧ f a ≤ 1048576 := fun a ha => by
      have := Pl.cp a ha
      have := gd.c a ha
      unfold cpE at *; omega
    have hb := totC_bd (m := i) (k := ckE es) (f := f) (C := 1048576) (X := 1048576) (by omega) (by omega) (fun a ha => gd.k a (by omega)) (fun a ha => fb a (by omega))
    have hb1 := totC_bd (m := i + 1) (k := ckE es) (f := f) (C := 1048576) (X := 1048576) (by omega) (by omega) (fun a ha => gd.k a (by omega)) (fun a ha => fb a (by omega))
    have et : totC (i + 1) (ckE es) f = totC i (ckE es) f + (es i).k * f i := rfl
    rw [et] at hb1
    generalize hX : (es i).k * f i = X at *
    have e3 : IntKind.i64.wrap X = X := w64_in (by omega) (by omega)
    have e4 : IntKind.i64.wrap (totC i (ckE es) f + X) = totC (i + 1) (ckE es) f := by rw [et]; exact w64_in (by omega) (by omega)
    rw [e3, e4, i64_inc (by omega)]
    refine stC0 (A5z.stC (by simp) fun g kp A5g => ?_)
    exact mu_next (I := I3) (k := m - (i + 1)) ⟨i + 1, rfl, him, rfl, (y.trans' x100).of_kp kp hb5, (A1y.ext x100).kp kp n1_, (A3y.ext x100).kp kp n3_, A5g⟩ (hlt3 him)
  · have : i = m := by have := of_decide_eq_false h1; omega
    subst this
    exact ⟨rfl, A5y, y⟩
end

end Go.Proofs.Ytkdnnfpmppmmcaa

namespace Go.Proofs.Ytkdnnfpmppmmcaa
open Go
set_option linter.unusedVariables false
set_option linter.unusedSimpArgs false

theorem wrong14_5 {n : Int} {m : Nat} {es : Nat → Ed} {l : Nat} {bf : Nat → Int} {k : Int} : wrong14 n m es l bf k ≠ 5 := by
  unfold wrong14
  split
  · split
    · split <;> omega
    · omega
  · unfold faultG
    split
    · show (3 : Int) ≠ 5; omega
    · exact badFrom_5

section
variable {h : H} {w : List Value} {n m l : Nat} {es : Nat → Ed} {sv on pot side : Value} {bf f p : Nat → Int} {sd : Nat → Bool}
theorem Cheap_ok (G : GrA h w n m es) (gd : Gd n m es) (hs : supOK n n bf) (Z : RS h sv (ints n bf)) (S : RS h on (ints m f)) (Q : RS h pot (ints n p))
    (Pl : PlanP n m (frE es) (toE es) (cpE es) bf f) (Pt : PotP m (frE es) (toE es) (cpE es) (ckE es) f p) (pb : ∀ v, v < n → -4398046511104 ≤ p v ∧ p v ≤ 4398046511104) :
    T Try.prog F.proof_Cheapest [.agg ⟨w⟩, .agg ⟨plV sv on pot⟩] h fun r h' => r = .ret (.tuple ⟨[.int .i64 (totC m (ckE es) f), .int .i64 0]⟩) ∧ Ext h h' := by
  refine E_proof_Cheapest ?_
  unfold B_proof_Cheapest
  refine new_bl ?_
  intro b1 q2 hb1 x1 A1
  refine new_bl ?_
  intro b3 q4 hb3 x3 A3
  have A1 := A1.ext x3
  have x13 := x1.trans' x3
  refine new_bl ?_
  intro b5 q6 hb5 x5 A5
  refine stC0 (A5.stC (by simp) fun q7 kp A5 => ?_)
  have x47 := x5.of_kp kp hb5
  have xh := x13.trans' x47
  have ne1 : b1 ≠ b5 := by
    rintro rfl
    obtain ⟨e, k⟩ := A1
    rw [hb5] at k; cases k
  have ne3 : b3 ≠ b5 := by
    rintro rfl
    obtain ⟨e, k⟩ := A3
    rw [hb5] at k; cases k
  refine look_T (Cheap_c1 (G.ext xh) gd hs (A1.ext x47) (A3.ext x47) A5 (Z.ext xh) (S.ext xh) (Q.ext xh) Pl Pt pb q4 x47 hb5 (G.ext x13) (S.ext x13) ne1 ne3) ?_
  rintro r h1 h2 ⟨rfl, B5, x⟩ x2
  exact .inl ⟨rfl, rt_ret ⟨_, rfl, ldI0 ⟨_, (B5.ext x2).ld rfl, rfl, (x13.trans' x).trans' x2⟩⟩⟩

theorem Cheap_c1_no {n : Int} {b1 b3 b5 : Nat} (G : GrA h w n m es) (hn : ¬ ((faultG n m es).1 = 0 ∧ n = 0)) (A1 : Bl h b1 w) (A3 : Bl h b3 plZ) :
    T Try.prog F.proof_Cheapest_c1 [.pointer (some (bk b1)), .pointer (some (bk b3)), .pointer (some (bk b5))] h
      fun r h' => (∃ c, r = .pan (gvV c)) ∧ Ext h h' := by
  refine E_proof_Cheapest_c1 ?_
  unfold B_proof_Cheapest_c1
  refine ptrP_mk (A1.ldN G.one.1 ((right_T G).mono ?_))
  rintro _ q4 ⟨x4, ⟨h0, rfl⟩ | ⟨_, rfl⟩⟩
  rotate_left
  · exact ⟨⟨_, rfl⟩, x4⟩
  have hn2 : ¬ (n < 0 ∨ 1024 < n) := by
    intro h1
    unfold faultG at h0
    rw [if_pos (by omega)] at h0
    exact absurd h0 (by show (3 : Int) ≠ 0; omega)
  obtain ⟨n', rfl⟩ : ∃ n' : Nat, n = n' := ⟨n.toNat, by omega⟩
  refine rt_ret ⟨rfl, ptrP_mk ((A1.ext x4).ldN G.one.1 (ptrP_mk ⟨_, (A3.ext x4).ld rfl, (psup_T (l := 0) (bf := fun _ => 0) (G.ext x4) (by omega) RS.nil0).mono ?_⟩))⟩
  rintro _ q5 ⟨x5, ⟨hs, _⟩ | ⟨_, c, rfl⟩⟩
  · exact absurd ⟨h0, by have := hs.1; omega⟩ hn
  exact ⟨⟨_, rfl⟩, x4.trans' x5⟩

theorem Cheap_no {n : Int} (G : GrA h w n m es) :
    T Try.prog F.proof_Cheapest [.agg ⟨w⟩, .agg ⟨plZ⟩] h fun r h' => (∃ x j : Int, r = .ret (.tuple ⟨[.int .i64 x, .int .i64 j]⟩)) ∧ Ext h h' := by
  by_cases hn : (faultG n m es).1 = 0 ∧ n = 0
  · obtain ⟨h0, hz⟩ := hn
    have hz : n = (0 : Nat) := by omega
    subst hz
    have gd : Gd 0 m es := Gd.iff.1 h0
    have m0 : m = 0 := by
      cases m with
      | zero => rfl
      | succ m => have := (gd.fr (Nat.succ_pos m)).2; omega
    subst m0
    refine (Cheap_ok (bf := fun _ => 0) (f := fun _ => 0) (p := fun _ => 0) G gd ⟨rfl, fun v hv => by omega, rfl⟩ RS.nil0 RS.nil0 RS.nil0 ⟨fun i hi => by omega, fun v hv => by omega⟩ (fun i hi => by omega) fun v hv => by omega).mono ?_
    rintro r q ⟨rfl, x⟩
    exact ⟨⟨_, _, rfl⟩, x⟩
  refine E_proof_Cheapest ?_
  unfold B_proof_Cheapest
  refine new_bl ?_
  intro b1 q2 hb1 x1 A1
  refine new_bl ?_
  intro b3 q4 hb3 x3 A3
  have A1 := A1.ext x3
  have x13 := x1.trans' x3
  refine new_bl ?_
  intro b5 q6 hb5 x5 A5
  refine stC0 (A5.stC (by simp) fun q7 kp A5 => ?_)
  have x47 := x5.of_kp kp hb5
  have xh := x13.trans' x47
  refine look_T (Cheap_c1_no (G.ext xh) hn (A1.ext x47) (A3.ext x47)) ?_
  rintro r h1 h2 ⟨⟨c, rfl⟩, x⟩ x2
  have x72 := x.trans' x2
  exact .inr ⟨c, rfl, rt_ret ⟨_, rfl, ldI0 ⟨_, (A5.ext x72).ld rfl, ⟨_, _, rfl⟩, xh.trans' x72⟩⟩⟩

theorem NoPlan_ok (G : GrA h w n m es) (gd : Gd n m es) (hs : supOK n n bf) (Z : RS h sv (ints n bf)) (S : RS h side (bools n sd))
    (hl : cutC m (frE es) (toE es) (cpE es) (fun v => sd v = true) < sumN n fun v => if sd v = true then bf v else 0) :
    T Try.prog F.proof_NoPlan [.agg ⟨w⟩, sv, side] h fun r h' => r = .ret (.int .i64 0) ∧ Ext h h' := by
  refine E_proof_NoPlan ?_
  unfold B_proof_NoPlan
  obtain ⟨a1, l1, c1, rfl⟩ := Z.isS
  obtain ⟨a2, l2, c2, rfl⟩ := S.isS
  refine new_bl ?_
  intro b1 q2 hb1 x1 A1
  refine new_bl ?_
  intro b3 q4 hb3 x3 A3
  refine new_bl ?_
  intro b5 q6 hb5 x5 A5
  have A1 := (A1.ext x3).ext x5
  have A3 : Bl q6 b3 [.slice a1 l1 c1] := A3.ext x5
  have A5 : Bl q6 b5 [.slice a2 l2 c2] := A5
  have x := (x1.trans' x3).trans' x5
  have G := G.ext x
  have Z := Z.ext x
  have S := S.ext x
  have n1 := gd.n1
  have m1 := gd.m1
  refine look_T (Q := fun r h' => r = .ret (.tuple ⟨[]⟩) ∧ Ext q6 h') ?_ ?_
  rotate_left
  · rintro r h1 h2 ⟨rfl, x7⟩ x2
    exact .inl ⟨rfl, rt_ret ⟨_, rfl, rfl, (x.trans' x7).trans' x2⟩⟩
  clear x1 x3 x5 x hb1 hb3 hb5
  refine E_proof_NoPlan_c1 ?_
  unfold B_proof_NoPlan_c1
  refine ptrP_mk (A1.ldN G.one.1 ((right_T G).mono ?_))
  rintro _ q7 ⟨x7, ⟨_, rfl⟩ | ⟨h, _⟩⟩
  rotate_left
  · exact absurd (Gd.iff.2 gd) h
  refine rt_ret ⟨rfl, ptrP_mk ((A1.ext x7).ldN G.one.1 (ptrP_mk ((A3.ext x7).ldV0 ((psup_T (G.ext x7) n1 (Z.ext x7)).mono ?_))))⟩
  rintro _ q8 ⟨x8, ⟨_, rfl⟩ | ⟨h, _⟩⟩
  rotate_left
  · exact absurd hs h
  have x := x7.trans' x8
  refine rt_ret ⟨rfl, ptrP_mk ((A1.ext x).ldN G.one.1 (ptrP_mk ((A5.ext x).ldV0 ((across_T (G.ext x) gd.w (S.ext x)).mono ?_))))⟩
  rintro _ q9 ⟨rfl, x9⟩
  have x := x.trans' x9
  clear x7 x8 x9
  have A3 := A3.ext x
  have A5 := A5.ext x
  have Z := Z.ext x
  have S := S.ext x
  refine rt_ret ⟨_, rfl, ptrP_mk (A5.ldV0 (S.len (bools_length _ _) fun _ _ => ?_))⟩
  have cb := cutB_bd (fr := frE es) (to := toE es) (cap := cpE es) (sd := sd) (j := m) fun i hi => gd.c i hi
  let I : (Int × Int × Unit) → H → Nat → Prop := fun p q z => ∃ j : Nat, p.2.1 = j ∧ j ≤ n ∧ z = n - j ∧ q = q9 ∧ p.1 = cutB m (frE es) (toE es) (cpE es) sd - sumN j (fun v => if sd v = true then bf v else 0)
  refine ⟨fun p q => ∃ k, I p q k, rk I, rk_wf I, ⟨_, 0, rfl, by omega, rfl, rfl, (Int.sub_zero _).symm⟩, ?_⟩
  intro cut pp q hI
  obtain ⟨j, e1, hj, hz, e2, e3⟩ := mu_spec hI
  generalize hkk : mu I ((cut, pp, ()), q) = km at *
  change pp = (j : Int) at e1
  change cut = _ - sumN j _ at e3
  subst e1 e2
  have hlt : j < n → n - (j + 1) < mu I ((cut, (j : Int), ()), q) := fun h => by rw [hkk, hz]; exact sub_dec h
  clear hI
  refine ifP_of (fun h1 => ?_) (fun h1 => ?_)
  · have hjn : j < n := by have := of_decide_eq_true h1; omega
    have es1 : sumN (j + 1) (fun v => if sd v = true then bf v else 0) = sumN j (fun v => if sd v = true then bf v else 0) + (if sd j = true then bf j else 0) := rfl
    rw [i64_inc (by omega)]
    refine S.rdB hjn (ifP_of (fun h2 => ptrP_mk (A3.ldV0 (Z.rdI hjn ?_))) (fun h2 => ?_))
    · have bj := hs.2.1 j hjn
      have sb := sumN_bd2 (k := j) (f := fun v => if sd v = true then bf v else 0) fun i hi => by
        have := hs.2.1 i (by omega)
        show -1048576 ≤ (if sd i = true then bf i else 0) ∧ (if sd i = true then bf i else 0) ≤ 1048576
        split <;> omega
      have ew : IntKind.i64.wrap (cut - bf j) = cut - bf j := w64_in (by omega) (by omega)
      rw [ew]
      refine mu_next (I := I) (k := n - (j + 1)) ⟨j + 1, rfl, hjn, rfl, rfl, ?_⟩ (hlt hjn)
      show cut - bf j = _ - sumN (j + 1) _
      rw [es1, if_pos h2]; omega
    · refine mu_next (I := I) (k := n - (j + 1)) ⟨j + 1, rfl, hjn, rfl, rfl, ?_⟩ (hlt hjn)
      show cut = _ - sumN (j + 1) _
      rw [es1, if_neg (by rw [h2]; simp)]; omega
  have : j = n := by have := of_decide_eq_false h1; omega
  subst this
  refine (need_ok (by
    rw [cutB_C] at e3
    simp only [decide_eq_true_eq]
    omega)).mono ?_
  rintro _ _ ⟨rfl, rfl⟩
  exact rt_ret ⟨rfl, rfl, x⟩
end

section
variable {h : H} {w : List Value} {n : Int} {m l : Nat} {es : Nat → Ed} {sv : Value} {bf : Nat → Int}
theorem CostProved_T (G : GrA h w n m es) (Z : RS h sv (ints l bf)) : T Try.prog F.compasslaw14_CostProved [.agg ⟨w⟩, sv] h fun r h' => r = .ret (.bool true) ∧ Ext h h' := by
  refine E_compasslaw14_CostProved ?_
  unfold B_compasslaw14_CostProved
  refine new_bl ?_
  intro b1 q1 hb1 x1 B1_
  refine awake14_R.mono ?_
  rintro _ q4 ⟨rfl, x4⟩
  refine rt_ret ⟨_, rfl, ifP_of (fun h => by simp at h) (fun _ => ?_)⟩
  have B1_ := B1_.ext x4
  have x := x1.trans' x4
  clear x1 x4
  have hwk : ∀ k : Int, 1 ≤ k → k ≤ 3 → wrong14 n m es l bf k = wrong14 n m es l bf 1 := fun k h1 h2 => by
    unfold wrong14
    rw [if_pos (show 1 ≤ k ∧ k ≤ 3 from ⟨h1, h2⟩), if_pos (show (1 : Int) ≤ 1 ∧ (1 : Int) ≤ 3 by omega)]
  refine B1_.ldN G.one.1 ((MSolve_T (G.ext x) (Z.ext x) 1).mono ?_)
  intro r0 q8 hS0
  obtain ⟨pl0, c0, sv0, e0, rfl, hpl0, hone0, _, x8, O0⟩ := hS0.out
  refine rt_ret ⟨_, hpl0, _, _, _, rfl, new_bl_st hpl0 rfl hone0 ?_⟩
  intro b13 q15 hb13 x13 _
  have x := (x.trans' x8).trans' x13
  have B1_ := (B1_.ext x8).ext x13
  clear hS0 x8 x13
  let I : (Int × Unit) → H → Nat → Prop := fun p q z => ∃ j : Nat, p.1 = j ∧ 1 ≤ j ∧ j ≤ 4 ∧ z = 4 - j ∧ Ext q15 q
  refine ⟨fun p q => ∃ k, I p q k, rk I, rk_wf I, ⟨_, 1, rfl, by omega, by omega, rfl, Ext.refl _⟩, ?_⟩
  intro pp q hI
  obtain ⟨j, e1, hj1, hj, hz, xq⟩ := mu_spec hI
  generalize hkk : mu I ((pp, ()), q) = km at *
  change pp = (j : Int) at e1
  subst e1
  have hlt : j < 4 → 4 - (j + 1) < mu I (((j : Int), ()), q) := fun h => by rw [hkk, hz]; exact sub_dec h
  clear hI
  have x := x.trans' xq
  have B1_ := B1_.ext xq
  refine ifP_of (fun h1 => ?_) (fun _ => ⟨rfl, x⟩)
  have hj3 : j < 4 := by have := of_decide_eq_true h1; omega
  have nx : ∀ q', Ext q q' → (∃ k, I (((IntKind.i64.wrap ((j : Int) + 1))), ()) q' k) ∧ rk I ((((IntKind.i64.wrap ((j : Int) + 1))), ()), q') (((j : Int), ()), q) := fun q' xx => by
    rw [i64_inc (by omega)]
    exact mu_next (I := I) (k := 4 - (j + 1)) ⟨j + 1, rfl, by omega, hj3, rfl, xq.trans' xx⟩ (hlt hj3)
  have hwj := hwk j (by omega) (by omega)
  have Gq := G.ext x
  have Zq := Z.ext x
  refine B1_.ldN G.one.1 ((MSolve_T Gq Zq j).mono ?_)
  rintro r q22 ⟨x22, hS⟩
  rcases hS with ⟨hw, rfl⟩ | ⟨hw, hnl, gd, hS⟩
  · -- refused
    rcases O0 with ⟨_, rfl, rfl⟩ | ⟨h, _⟩
    rotate_left
    · exact absurd (hwj.trans h) hw
    refine rt_ret ⟨_, rfl, _, _, _, rfl, new_bl_st rfl rfl plZ_one ?_⟩
    intro b27 q29 hb27 x27 B27
    have x2 := x22.trans' x27
    refine ifP_of (fun h => by simp [hwj] at h) (fun _ => ifP_of (fun h => by simp at h) (fun _ => ifP_of (fun h => absurd (of_decide_eq_true h) wrong14_5) (fun _ => ?_)))
    refine (B1_.ext x2).ldN G.one.1 (B27.ldN rfl ((Cheap_no (Gq.ext x2)).mono ?_))
    rintro _ q47 ⟨⟨c, e, rfl⟩, x47⟩
    refine rt_ret ⟨_, _, rfl, ifP_of (fun h => absurd (of_decide_eq_true h) (by rw [← hwj]; exact hw)) (fun _ => nx _ (x2.trans' x47))⟩
  subst hnl
  rcases O0 with ⟨h, _⟩ | ⟨_, O0⟩
  · exact absurd (hwj.symm.trans hw) h
  obtain ⟨_, _, hs, _⟩ := wrong14_0 hw
  rcases hS with ⟨own, vs, von, vp, f, p, rfl, bs, P⟩ | ⟨bsd, sd, rfl, hbs, S, hl⟩
  · -- a plan
    obtain ⟨rfl, hc⟩ : e0 = 0 ∧ c0 = totC m (ckE es) f := by
      rcases O0 with ⟨rfl, f0, p0, P0, T0, rfl⟩ | ⟨_, _, no⟩
      · exact ⟨rfl, Int.le_antisymm (P0.best P.pl gd.ends T0) (P.pl.best P0 gd.ends P.pt)⟩
      · exact absurd P.pl (no _)
    refine rt_ret ⟨_, rfl, _, _, _, rfl, new_bl_st rfl rfl P.one ?_⟩
    intro b27 q29 hb27 x27 B27
    have x2 := x22.trans' x27
    refine ifP_of (fun h => by simp at h) (fun _ => ifP_of (fun h => by rw [hc] at h; simp at h) (fun _ => ifP_of (fun h => by simp at h) (fun _ => ?_)))
    refine (B1_.ext x2).ldN G.one.1 (B27.ldN rfl ((Cheap_ok (Gq.ext x2) gd hs ((RS.of_S1 P.s).ext x27) ((RS.of_S1 P.o).ext x27) ((RS.of_S1 P.po).ext x27) P.pl P.pt fun v hv => by have := P.pb v hv; omega).mono ?_))
    rintro _ q47 ⟨rfl, x47⟩
    refine rt_ret ⟨_, _, rfl, ifP_of (fun _ => ifP_of (fun h => by simp at h) (fun _ => ifP_of (fun h => by simp at h) (fun _ => nx _ (x2.trans' x47)))) (fun _ => nx _ (x2.trans' x47))⟩
  · -- none
    obtain ⟨rfl, rfl⟩ : e0 = 5 ∧ c0 = 0 := by
      rcases O0 with ⟨rfl, f0, p0, P0, T0, rfl⟩ | ⟨h1, h2, _⟩
      · exact absurd hl fun h => P0.none_ gd h
      · exact ⟨h1, h2⟩
    refine rt_ret ⟨_, rfl, _, _, _, rfl, new_bl_st rfl rfl plZ_one ?_⟩
    intro b27 q29 hb27 x27 B27
    have x2 := x22.trans' x27
    refine ifP_of (fun h => by simp at h) (fun _ => ifP_of (fun h => by simp at h) (fun _ => ifP_of (fun _ => ?_) (fun h => by simp at h)))
    refine (B1_.ext x2).ldN G.one.1 ((NoPlan_ok (Gq.ext x2) gd hs (Zq.ext x2) ((RS.of_sl S).ext x27) hl).mono ?_)
    rintro _ q32 ⟨rfl, x32⟩
    refine rt_ret ⟨_, rfl, ifP_of (fun h => by simp at h) (fun _ => ?_)⟩
    refine (B1_.ext (x2.trans' x32)).ldN G.one.1 ((B27.ext x32).ldN rfl ((Cheap_no (Gq.ext (x2.trans' x32))).mono ?_))
    rintro _ q47 ⟨⟨c, e, rfl⟩, x47⟩
    refine rt_ret ⟨_, _, rfl, ifP_of (fun h => by simp at h) (fun _ => nx _ ((x2.trans' x32).trans' x47))⟩
end

end Go.Proofs.Ytkdnnfpmppmmcaa

