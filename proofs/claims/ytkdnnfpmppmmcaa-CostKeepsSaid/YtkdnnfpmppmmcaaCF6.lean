import Derived.Test.YtkdnnfpmppmmcaaProg
import Derived.Test.YtkdnnfpmppmmcaaCF5
namespace Go.Proofs.Ytkdnnfpmppmmcaa
open Go Go.ChangeShapes Go.WideShapes Go.ChangeAt Go.RowKit
set_option linter.unusedVariables false

theorem own : ownKnob Try.prog.godebug = none := by kernel_rfl
theorem laidOut : laidOutB Try.prog = true := by kernel_rfl

end Go.Proofs.Ytkdnnfpmppmmcaa

namespace Go.Proofs.Ytkdnnfpmppmmcaa
open Go
set_option linter.unusedVariables false
set_option linter.unusedSimpArgs false

/-- One number is appended, however long the slice is. -/
theorem S1.push1 {own : Own} {h : H} {i ex : Nat} {p z x : Value} {vs : List Value} {K : Nat → H → Value → H → Prop} {e bytes : Nat} (s : S1 own h i p vs)
    (one : x.oneCell' = true) (hb : bytes ≤ 8) (hl : vs.length ≤ 17592186044416)
    (k : ∀ bx hm p' own' h', h bx = none → Ext h hm → Fm [i] own h own' h' → S1 own' h' i p' (vs ++ [x]) → K bx hm p' h') :
    newP h (.cells ⟨[x]⟩ ex (0, 0)) fun bx hm => apP p (.slice (some (bk bx)) 1 1) hm 1 e bytes [z] (K bx hm) := by
  refine new_put ?_
  intro bx hm hbx xm hx
  have hsrc : srcP hm (some (bk bx)) (1 * 1) [x] := by
    refine ⟨rfl, fun j v hj => ?_⟩
    rw [bk_add, hcell_at hx, List.getElem?_toArray]
    exact hj
  have hzl : ∀ m, (zrep [z] m).length = m := by intro m; simp [zrep]
  rcases s with ⟨rfl, rfl⟩ | ⟨b, hob, c, eb, zs, rfl, h2, h3⟩
  · refine ⟨[x], hsrc, fun hle => by omega, fun hlt => ⟨?_, [], ⟨rfl, rfl⟩, fun cap hcap => ?_⟩⟩
    · have := nextcap_le hlt
      calc _ ≤ (2 * (0 + 1) + 192) * bytes := Nat.mul_le_mul_right _ this
        _ ≤ (2 * (0 + 1) + 192) * 8 := Nat.mul_le_mul_left _ hb
        _ ≤ _ := by omega
    · refine new_put ?_
      intro b g hbn x1 e1
      rw [Nat.zero_add] at e1 hcap ⊢
      refine k bx hm _ (own1 own b i) g hbx xm (Fm.new (xm.trans' x1) (xm.new hbn)) (.inr ⟨b, own1_at, cap, e, zrep [z] (cap - 1), rfl, by rw [e1], ?_⟩)
      rw [hzl]; simp; omega
  · have h2m := xm _ _ h2
    refine ⟨[x], hsrc, fun hle => ⟨fun _ => ?_, by simpa using one, ?_⟩, fun hlt => ⟨?_, vs, ⟨by rw [Nat.mul_one], ?_⟩, fun cap hcap => ?_⟩⟩
    · rw [bk_add]
      refine ⟨_, _, h2m, rfl, ?_⟩
      simp only [List.size_toArray, List.length_append, List.length_singleton]
      omega
    · rw [bk_add]
      have e2 : hset hm ⟨b, vs.length * 1, none⟩ [x] b = some (.cells ⟨vs ++ [x] ++ zs.drop 1⟩ eb (0, 0)) := by
        unfold hset
        rw [if_pos rfl, h2m]
        simp only [Option.map_some, Nat.mul_one]
        rw [setR_list _ _ _ (by simp; omega)]
        simp [List.take_append, List.drop_append]
      refine k bx hm _ own _ hbx xm ((Fm.of_ext xm).trans (Fm.kp (b := b) ?_ hob ⟨_, e2⟩)) (.inr ⟨b, hob, c, eb, zs.drop 1, by simp, e2, by simp; omega⟩)
      intro j o hj hh
      unfold hset
      rw [if_neg hj]; exact hh
    · have hcm : c = vs.length := by omega
      subst hcm
      calc _ ≤ (vs.length + vs.length / 4 + 600) * bytes := Nat.mul_le_mul_right _ nextcap1_le
        _ ≤ (vs.length + vs.length / 4 + 600) * 8 := Nat.mul_le_mul_left _ hb
        _ ≤ _ := by omega
    · intro j v hj
      rw [bk_add, hcell_at h2m, List.getElem?_toArray]
      have := (List.getElem?_eq_some_iff.1 hj).1
      rw [List.getElem?_append_left this]
      exact hj
    · refine new_put ?_
      intro b' g hbn x1 e1
      refine k bx hm _ (own1 own b' i) g hbx xm (Fm.new (xm.trans' x1) (xm.new hbn)) (.inr ⟨b', own1_at, cap, e, zrep [z] (cap - (vs.length + 1)), by simp, by rw [e1], ?_⟩)
      rw [hzl]; simp; omega
theorem ints_push {j : Nat} {f : Nat → Int} : ints (j + 1) f = ints j f ++ [.int .i64 (f j)] := by
  unfold ints; rw [List.range_succ, List.map_append]; rfl

end Go.Proofs.Ytkdnnfpmppmmcaa

namespace Go.Proofs.Ytkdnnfpmppmmcaa
open Go
set_option linter.unusedVariables false
set_option linter.unusedSimpArgs false

/-- The code and the cost that Solve answers. -/
def OutC (n : Int) (m : Nat) (es : Nat → Ed) (l : Nat) (bf : Nat → Int) (k : Int) (c e : Int) : Prop :=
  (wrong14 n m es l bf k ≠ 0 ∧ c = 0 ∧ e = wrong14 n m es l bf k) ∨
    (wrong14 n m es l bf k = 0 ∧ ((e = 0 ∧ ∃ f p, PlanP l m (frE es) (toE es) (cpE es) bf f ∧ PotP m (frE es) (toE es) (cpE es) (ckE es) f p ∧ c = totC m (ckE es) f) ∨ (e = 5 ∧ c = 0 ∧ ∀ g, ¬ PlanP l m (frE es) (toE es) (cpE es) bf g)))
theorem SolC.out {h h' : H} {n : Int} {m : Nat} {es : Nat → Ed} {l : Nat} {bf : Nat → Int} {k : Int} {r : Res} (S : SolC h n m es l bf k r h') :
    ∃ pl c sv e, r = .ret (.tuple ⟨[.agg ⟨pl⟩, .int .i64 c, sv, .int .i64 e]⟩) ∧ pl.length = 3 ∧ (∀ v ∈ pl, v.oneCell' = true) ∧ (∃ a l c, sv = .slice a l c) ∧ Ext h h' ∧ OutC n m es l bf k c e := by
  rcases S with ⟨x, ⟨hw, rfl⟩ | ⟨hw, hnl, gd, ⟨own, vs, von, vp, f, p, rfl, bs, P⟩ | ⟨bs, sd, rfl, _, _, hl⟩⟩⟩
  · exact ⟨_, _, _, _, rfl, rfl, plZ_one, ⟨_, _, _, rfl⟩, x, .inl ⟨hw, rfl, rfl⟩⟩
  · exact ⟨_, _, _, _, rfl, rfl, P.one, ⟨_, _, _, rfl⟩, x, .inr ⟨hw, .inl ⟨rfl, f, p, P.pl, P.pt, rfl⟩⟩⟩
  · exact ⟨_, _, _, _, rfl, rfl, plZ_one, ⟨_, _, _, rfl⟩, x, .inr ⟨hw, .inr ⟨rfl, rfl, fun g Pg => Pg.none_ gd hl⟩⟩⟩
section
variable {n : Int} {m l : Nat} {es : Nat → Ed} {bf : Nat → Int} {k c e d f : Int}
theorem OutC.c0 (O : OutC n m es l bf k c e) (h : e ≠ 0) : c = 0 := by
  rcases O with ⟨_, h, _⟩ | ⟨_, ⟨h2, _⟩ | ⟨_, h, _⟩⟩
  · exact h
  · exact absurd h2 h
  · exact h
theorem OutC.ok (O : OutC n m es l bf k c e) (h : e = 0) : wrong14 n m es l bf k = 0 ∧ ∃ f p, PlanP l m (frE es) (toE es) (cpE es) bf f ∧ PotP m (frE es) (toE es) (cpE es) (ckE es) f p ∧ c = totC m (ckE es) f := by
  rcases O with ⟨h1, _, h2⟩ | ⟨h1, ⟨_, h2⟩ | ⟨h2, _⟩⟩
  · rw [h] at h2; exact absurd h2.symm h1
  · exact ⟨h1, h2⟩
  · omega
end
end Go.Proofs.Ytkdnnfpmppmmcaa

namespace Go.Proofs.Ytkdnnfpmppmmcaa
open Go
set_option linter.unusedVariables false
set_option linter.unusedSimpArgs false

section
variable {h : H} {w : List Value} {n m l : Nat} {es : Nat → Ed} {sv on pot side : Value} {bf f p : Nat → Int} {sd : Nat → Bool}
theorem psup_T (G : GrA h w n m es) (hn : n ≤ 1024) (Z : RS h sv (ints l bf)) : T Try.prog F.proof_supplied [.agg ⟨w⟩, sv] h fun r h' => Ext h h' ∧ ((supOK n l bf ∧ r = .ret (.tuple ⟨[]⟩)) ∨ (¬ supOK n l bf ∧ ∃ c, r = .pan (gvV c))) := by
  refine E_proof_supplied ?_
  unfold B_proof_supplied
  refine new_bl ?_
  intro b1 q1 hb1 x1 B
  obtain ⟨gv, rfl, Gv⟩ := G.gs
  have Z := Z.ext x1
  refine Z.len (ints_length _ _) fun _ _ => ⟨_, B.ld rfl, ?_⟩
  refine (need_T q1 _ 130).mono ?_
  rintro r _ ⟨rfl, ⟨h1, rfl⟩ | ⟨h1, rfl⟩⟩
  rotate_left
  · exact ⟨x1, .inr ⟨fun hs => by have := hs.1; simp at h1; omega, _, rfl⟩⟩
  have hln : n = l := by simp at h1; omega
  refine rt_ret ⟨rfl, Z.len (ints_length _ _) fun _ _ => ?_⟩
  let I : (Int × Int × Unit) → H → Nat → Prop := fun p q z => ∃ j : Nat, p.2.1 = j ∧ j ≤ l ∧ z = l - j ∧ q = q1 ∧ p.1 = sumN j bf ∧ ∀ v, v < j → -1048576 ≤ bf v ∧ bf v ≤ 1048576
  refine ⟨fun p q => ∃ k, I p q k, rk I, rk_wf I, ⟨_, 0, rfl, by omega, rfl, rfl, rfl, fun v hv => by omega⟩, ?_⟩
  intro sm p q hI
  obtain ⟨j, e1, hj, hz, e2, e3, hb⟩ := mu_spec hI
  generalize hkk : mu I ((sm, p, ()), q) = km at *
  change p = (j : Int) at e1
  change sm = sumN j bf at e3
  subst e1 e2 e3
  have hlt : j < l → l - (j + 1) < mu I ((sumN j bf, (j : Int), ()), q) := fun h => by rw [hkk, hz]; exact sub_dec h
  clear hI
  refine ifP_of (fun h2 => ?_) (fun h2 => ?_)
  · have hjl : j < l := by have := of_decide_eq_true h2; omega
    refine Z.rdI hjl (ifP_of (fun h3 => ?_) (fun h3 => ?_))
    · have h3 := of_decide_eq_true h3
      refine (need_T q _ 130).mono ?_
      rintro r _ ⟨rfl, ⟨h4, rfl⟩ | ⟨h4, rfl⟩⟩
      · have h4 := of_decide_eq_true h4
        have sb := sumN_bd2 hb
        have ew : IntKind.i64.wrap (sumN j bf + bf j) = sumN (j + 1) bf := w64_in (by omega) (by omega)
        refine rt_ret ⟨rfl, ?_⟩
        rw [ew, i64_inc (by omega)]
        refine mu_next (I := I) (k := l - (j + 1)) ⟨j + 1, rfl, hjl, rfl, rfl, rfl, fun v hv => ?_⟩ (hlt hjl)
        by_cases e : v = j
        · subst e; omega
        · exact hb v (by omega)
      · exact ⟨x1, .inr ⟨fun hs => by have := hs.2.1 j hjl; have := of_decide_eq_false h4; omega, _, rfl⟩⟩
    · have h3 := of_decide_eq_false h3
      refine (need_no rfl).mono ?_
      rintro _ _ ⟨rfl, rfl⟩
      exact ⟨x1, .inr ⟨fun hs => by have := hs.2.1 j hjl; omega, _, rfl⟩⟩
  · have : j = l := by have := of_decide_eq_false h2; omega
    subst this
    refine (need_T q _ 130).mono ?_
    rintro r _ ⟨rfl, ⟨h4, rfl⟩ | ⟨h4, rfl⟩⟩
    · exact rt_ret ⟨rfl, x1, .inl ⟨⟨by omega, hb, by simpa using h4⟩, rfl⟩⟩
    · exact ⟨x1, .inr ⟨fun hs => by have := hs.2.2; simp at h4; omega, _, rfl⟩⟩
theorem pred_T (G : GrA h w n m es) (gd : Gd n m es) (P : RS h pot (ints n p)) (pb : ∀ v, v < n → -4398046511104 ≤ p v ∧ p v ≤ 4398046511104) :
    T Try.prog F.proof_reduced [.agg ⟨w⟩, pot, .int .i64 1] h fun r h' => ∃ v, r = .ret v ∧ Ext h h' ∧ RS h' v (ints m fun i => (es i).k + p (frE es i) - p (toE es i)) := by
  have n1 := gd.n1
  have m1 := gd.m1
  refine E_proof_reduced ?_
  unfold B_proof_reduced
  refine new_bl ?_
  intro b1 q1 hb1 x1 B
  obtain ⟨gv, rfl, Gv⟩ := G.gs
  have P := P.ext x1
  have Gv := Gv.ext x1
  refine P.len (ints_length _ _) fun _ _ => ⟨_, B.ld rfl, (need_ok (by simp)).mono ?_⟩
  rintro _ _ ⟨rfl, rfl⟩
  refine rt_ret ⟨rfl, P.len (ints_length _ _) fun _ _ => ?_⟩
  let I : (Int × Unit) → H → Nat → Prop := fun p q z => ∃ j : Nat, p.1 = j ∧ j ≤ n ∧ z = n - j ∧ q = q1
  refine ⟨fun p q => ∃ k, I p q k, rk I, rk_wf I, ⟨_, 0, rfl, by omega, rfl, rfl⟩, ?_⟩
  intro pp q hI
  obtain ⟨j, e1, hj, hz, e2⟩ := mu_spec hI
  generalize hkk : mu I ((pp, ()), q) = km at *
  change pp = (j : Int) at e1
  subst e1 e2
  have hlt : j < n → n - (j + 1) < mu I (((j : Int), ()), q) := fun h => by rw [hkk, hz]; exact sub_dec h
  clear hI
  refine ifP_of (fun h1 => ?_) (fun _ => ?_)
  · have hjn : j < n := by have := of_decide_eq_true h1; omega
    have pj := pb j hjn
    rw [i64_inc (by omega)]
    refine P.rdI hjn (ifP_of (fun _ => (need_ok (by simp; omega)).mono ?_) (fun h => by have := of_decide_eq_false h; omega))
    rintro _ _ ⟨rfl, rfl⟩
    exact rt_ret ⟨rfl, mu_next (I := I) (k := n - (j + 1)) ⟨j + 1, rfl, hjn, rfl, rfl⟩ (hlt hjn)⟩
  refine ⟨_, B.ld rfl, Gv.len fun _ _ => ⟨by omega, by omega, by omega, by omega, new_put ?_⟩⟩
  intro b30 q30 hb30 x30 h30
  rw [Int.toNat_natCast] at h30
  have kO : S1 (own1 (fun _ => 0) b30 1) q30 1 (.slice (some (bk b30)) 0 m) [] := .inr ⟨b30, own1_at, m, 2, zrep [.int .i64 0] m, rfl, h30, by simp [zrep]⟩
  have bs : Bs q (own1 (fun _ => 0) b30 1) q30 := Bs.start.new x30 hb30
  generalize own1 (fun _ => 0) b30 1 = ow at *
  refine ⟨_, (B.ext x30).ld rfl, (Gv.ext x30).len fun _ _ => ?_⟩
  simp only [Int.toNat_natCast]
  let I2 : (Value × Int × Unit) → H → Nat → Prop := fun pp q' z => ∃ (i : Nat) (ow : Own), pp.2.1 = i ∧ i ≤ m ∧ z = m - i ∧ Bs q ow q' ∧ S1 ow q' 1 pp.1 (ints i fun i => (es i).k + p (frE es i) - p (toE es i))
  refine ⟨fun pp q => ∃ k, I2 pp q k, rk I2, rk_wf I2, ⟨_, 0, ow, rfl, by omega, rfl, bs, kO⟩, ?_⟩
  clear bs kO
  intro ov pp q2 hI
  obtain ⟨i, ow, e1, hi, hz2, bs, kO⟩ := mu_spec hI
  generalize hkk2 : mu I2 ((ov, pp, ()), q2) = km2 at *
  change pp = (i : Int) at e1
  change S1 ow q2 1 ov _ at kO
  subst e1
  have hlt2 : i < m → m - (i + 1) < mu I2 ((ov, (i : Int), ()), q2) := fun h => by rw [hkk2, hz2]; exact sub_dec h
  clear hI
  refine ifP_of (fun h1 => ?_) (fun h1 => ?_)
  · have him : i < m := by have := of_decide_eq_true h1; omega
    have ef := gd.fr him
    have et := gd.to him
    have kb := gd.k i him
    have p1 := pb _ ef.2
    have p2 := pb _ et.2
    refine (Gv.ext bs.ext).e4 him (new_bl_st rfl rfl (ed_one _) ?_)
    intro b43 q43 hb43 x43 B43
    have k25 : B1 (own1 ow b43 9) q43 9 b43 (es i).vs := B1.new B43
    have bs := bs.nw (j := 9) x43 hb43
    have kO := kO.nw (j := 9) x43 hb43
    generalize own1 ow b43 9 = ow at *
    have Pz := P.ext bs.ext
    refine ⟨_, k25.ld rfl, _, k25.ld rfl, ?_⟩
    rw [ef.1]
    refine Pz.rdI ef.2 ⟨_, k25.ld rfl, ?_⟩
    rw [et.1]
    refine Pz.rdI et.2 ?_
    have e1 : IntKind.i64.wrap (1 * (es i).k) = (es i).k := by rw [Int.one_mul]; exact w64_in (by omega) (by omega)
    have e2 : IntKind.i64.wrap ((es i).k + p (frE es i)) = (es i).k + p (frE es i) := w64_in (by omega) (by omega)
    have e3 : IntKind.i64.wrap ((es i).k + p (frE es i) - p (toE es i)) = (es i).k + p (frE es i) - p (toE es i) := w64_in (by omega) (by omega)
    show newP q43 (.cells ⟨[.int .i64 (IntKind.i64.wrap (IntKind.i64.wrap (IntKind.i64.wrap (1 * (es i).k) + p (frE es i)) - p (toE es i)))]⟩ 2 (0, 0)) _
    rw [e1, e2, e3]
    refine kO.push1 (by simp [Value.oneCell']) (by omega) (by rw [ints_length]; omega) ?_
    intro bx hm2 p' ow' q' hbx xm F2 kO
    have bs := bs.fm F2 (by simp <;> omega)
    rw [i64_inc (by omega)]
    refine mu_next (I := I2) (k := m - (i + 1)) ⟨i + 1, ow', rfl, him, rfl, bs, ?_⟩ (hlt2 him)
    show S1 ow' q' 1 p' (ints (i + 1) _)
    rw [ints_push]; exact kO
  · have : i = m := by have := of_decide_eq_false h1; omega
    subst this
    exact ⟨ov, rfl, x1.trans' bs.ext, RS.of_S1 kO⟩
theorem Cheap_c1 {b1 b3 b5 : Nat} (G : GrA h w n m es) (gd : Gd n m es) (hs : supOK n n bf) (A1 : Bl h b1 w) (A3 : Bl h b3 (plV sv on pot)) (A5 : Bl h b5 [.int .i64 0]) (Z : RS h sv (ints n bf)) (S : RS h on (ints m f)) (Q : RS h pot (ints n p))
    (Pl : PlanP n m (frE es) (toE es) (cpE es) bf f) (Pt : PotP m (frE es) (toE es) (cpE es) (ckE es) f p) (pb : ∀ v, v < n → -4398046511104 ≤ p v ∧ p v ≤ 4398046511104) (h0 : H) (x0 : Ext h0 h) (hb5 : h0 b5 = none)
    (G0 : GrA h0 w n m es) (S0 : RS h0 on (ints m f)) (n1_ : b1 ≠ b5) (n3_ : b3 ≠ b5) :
    T Try.prog F.proof_Cheapest_c1 [.pointer (some (bk b1)), .pointer (some (bk b3)), .pointer (some (bk b5))] h
      fun r h' => r = .ret (.tuple ⟨[]⟩) ∧ Bl h' b5 [.int .i64 (totC m (ckE es) f)] ∧ Ext h0 h' := by
  have n1 := gd.n1
  have m1 := gd.m1
  refine E_proof_Cheapest_c1 ?_
  unfold B_proof_Cheapest_c1
  refine ptrP_mk (A1.ldN G.one.1 ((right_T G).mono ?_))
  rintro _ q4 ⟨x4, ⟨_, rfl⟩ | ⟨h, _⟩⟩
  rotate_left
  · exact absurd (Gd.iff.2 gd) h
  refine rt_ret ⟨rfl, ptrP_mk ((A1.ext x4).ldN G.one.1 (ptrP_mk ⟨_, (A3.ext x4).ld rfl, (psup_T (G.ext x4) n1 (Z.ext x4)).mono ?_⟩))⟩
  rintro _ q5 ⟨x5, ⟨_, rfl⟩ | ⟨h, _⟩⟩
  rotate_left
  · exact absurd hs h
  have x := x4.trans' x5
  refine rt_ret ⟨rfl, ptrP_mk ((A1.ext x).ldN G.one.1 (ptrP_mk ⟨_, (A3.ext x).ld rfl, (carried_T (G.ext x) gd.w (S.ext x) Pl.cp).mono ?_⟩))⟩
  rintro _ q6 ⟨cv, rfl, x6, Sc⟩
  have x := x.trans' x6
  clear x4 x5 x6
  refine rt_ret (Sc.len (ints_length _ _) fun _ _ => ?_)
  let I : (Int × Unit) → H → Nat → Prop := fun p q z => ∃ j : Nat, p.1 = j ∧ j ≤ n ∧ z = n - j ∧ q = q6
  refine ⟨fun p q => ∃ k, I p q k, rk I, rk_wf I, ⟨_, 0, rfl, by omega, rfl, rfl⟩, ?_⟩
  intro pp q hI
  obtain ⟨j, e1, hj, hz, e2⟩ := mu_spec hI
  generalize hkk : mu I ((pp, ()), q) = km at *
  change pp = (j : Int) at e1
  subst e1 e2
  have hlt : j < n → n - (j + 1) < mu I (((j : Int), ()), q) := fun h => by rw [hkk, hz]; exact sub_dec h
  clear hI
  refine ifP_of (fun h1 => ?_) (fun _ => ?_)
  · have hjn : j < n := by have := of_decide_eq_true h1; omega
    rw [i64_inc (by omega)]
    refine Sc.rdI hjn (ptrP_mk ⟨_, (A3.ext x).ld rfl, (Z.ext x).rdI hjn ((need_ok (by simp; exact Pl.out j hjn)).mono ?_)⟩)
    rintro _ _ ⟨rfl, rfl⟩
    exact rt_ret ⟨rfl, mu_next (I := I) (k := n - (j + 1)) ⟨j + 1, rfl, hjn, rfl, rfl⟩ (hlt hjn)⟩
  refine ptrP_mk ((A1.ext x).ldN G.one.1 (ptrP_mk ⟨_, (A3.ext x).ld rfl, (pred_T (G.ext x) gd (Q.ext x) pb).mono ?_⟩))
  rintro _ q7 ⟨rv, rfl, x7, Sr⟩
  have x := x.trans' x7
  obtain ⟨gv, rfl, Gv⟩ := G.gs
  refine rt_ret (Sr.len (ints_length _ _) fun _ _ => ?_)
  let I2 : (Int × Unit) → H → Nat → Prop := fun p q z => ∃ j : Nat, p.1 = j ∧ j ≤ m ∧ z = m - j ∧ q = q7
  refine ⟨fun p q => ∃ k, I2 p q k, rk I2, rk_wf I2, ⟨_, 0, rfl, by omega, rfl, rfl⟩, ?_⟩
  intro pp q8 hI
  obtain ⟨i, e1, hi, hz2, e2⟩ := mu_spec hI
  generalize hkk2 : mu I2 ((pp, ()), q8) = km2 at *
  change pp = (i : Int) at e1
  subst e1 e2
  have hlt2 : i < m → m - (i + 1) < mu I2 (((i : Int), ()), q8) := fun h => by rw [hkk2, hz2]; exact sub_dec h
  clear hI
  have A3x := A3.ext x
  have A1x := A1.ext x
  have Sx := S.ext x
  refine ifP_of (fun h1 => ?_) (fun _ => ?_)
  · have him : i < m := by have := of_decide_eq_true h1; omega
    obtain ⟨c1, c2⟩ := Pt i him
    rw [i64_inc (by omega)]
    have next : (∃ k, I2 (((i + 1 : Nat) : Int), ()) q8 k) ∧ rk I2 ((((i + 1 : Nat) : Int), ()), q8) (((i : Int), ()), q8) := mu_next (I := I2) (k := m - (i + 1)) ⟨i + 1, rfl, him, rfl, rfl⟩ (hlt2 him)
    have okk : ∀ {b : Bool} {c : Int}, b = true → T Try.prog F.proof_need [.bool b, .int .i64 c] q8 (rt (fun v49 h50 => v49 = .tuple ⟨[]⟩ ∧ (∃ k, I2 (((i + 1 : Nat) : Int), ()) h50 k) ∧ rk I2 ((((i + 1 : Nat) : Int), ()), h50) (((i : Int), ()), q8)) (fun v51 h52 => (.pan v51 : Res) = .ret (.tuple ⟨[]⟩) ∧ Bl h52 b5 [.int .i64 (totC m (ckE es) f)] ∧ Ext h0 h52)) := fun hb => by
      refine (need_ok hb).mono ?_
      rintro _ _ ⟨rfl, rfl⟩
      exact rt_ret ⟨rfl, next⟩
    have low : ((es i).k + p (frE es i) - p (toE es i) < 0) → f i = (es i).c := fun h => c2 h
    refine Sr.rdI him (ifP_of (fun h2 => ifP_of (fun h3 => okk rfl) (fun h3 => ?_)) (fun h2 => ?_))
    · have h3 := of_decide_eq_false h3
      refine ptrP_mk (ptrP_mk ⟨_, A3x.ld rfl, Sx.rdI him ⟨_, A1x.ld rfl, (Gv.ext x).c him (okk (by simp; exact low (by omega)))⟩⟩)
    · have h2 := of_decide_eq_false h2
      have e0 : f i = 0 := c1 (by show 0 < (es i).k + _ - _; omega)
      refine ptrP_mk ⟨_, A3x.ld rfl, Sx.rdI him (ifP_of (fun _ => ifP_of (fun _ => okk rfl) (fun h3 => ?_)) (fun h => absurd e0 (by simpa using h)))⟩
      have := of_decide_eq_false h3
      omega
  -- what it costs
  refine ptrP_mk ⟨_, A1x.ld rfl, (Gv.ext x).len fun _ _ => ?_⟩
  have y := x0.trans' x
  obtain ⟨gv0, ew, Gv0⟩ := G0.gs
  simp only [List.cons.injEq, and_true, true_and] at ew
  subst ew
  let I3 : (Int × Unit) → H → Nat → Prop := fun p q z => ∃ j : Nat, p.1 = j ∧ j ≤ m ∧ z = m - j ∧ Ext h0 q ∧ Bl q b1 [.int .i64 n, gv] ∧ Bl q b3 (plV sv on pot) ∧ Bl q b5 [.int .i64 (totC j (ckE es) f)]
  refine ⟨fun p q => ∃ k, I3 p q k, rk I3, rk_wf I3, ⟨_, 0, rfl, by omega, rfl, y, A1x, A3x, A5.ext x⟩, ?_⟩
  intro pp q9 hI
  obtain ⟨i, e1, hi, hz3, y, A1y, A3y, A5y⟩ := mu_spec hI
  generalize hkk3 : mu I3 ((pp, ()), q9) = km3 at *
  change pp = (i : Int) at e1
  subst e1
  have hlt3 : i < m → m - (i + 1) < mu I3 (((i : Int), ()), q9) := fun h => by rw [hkk3, hz3]; exact sub_dec h
  clear hI
  refine ifP_of (fun h1 => ?_) (fun h1 => ?_)
  · have him : i < m := by have := of_decide_eq_true h1; omega
    refine (Gv0.ext y).e4 him (new_bl_st rfl rfl (ed_one _) ?_)
    intro b100 q100 hb100 x100 B100
    have A5z := A5y.ext x100
    refine ptrP_mk (ptrP_mk (ldI0 ⟨_, A5z.ld rfl, _, B100.ld rfl, _, (A3y.ext x100).ld rfl, ((S0.ext y).ext x100).rdI him (ptrP_mk ?_)⟩))
    have fb : ∀ a, a < m → 0 ≤ f a ∧ f a ≤ 1048576 := fun a ha => by
      have := Pl.cp a ha
      have := gd.c a ha
      unfold cpE at *; omega
    have hb := totC_bd (m := i) (k := ckE es) (f := f) (C := 1048576) (X := 1048576) (by omega) (by omega) (fun a ha => gd.k a (by omega)) (fun a ha => fb a (by omega))
    have hb1 := totC_bd (m := i + 1) (k := ckE es) (f := f) (C := 1048576) (X := 1048576) (by omega) (by omega) (fun a ha => gd.k a (by omega)) (fun a ha => fb a (by omega))
    have et : totC (i + 1) (ckE es) f = totC i (ckE es) f + (es i).k * f i := rfl
    rw [et] at hb1
    generalize hX : (es i).k * f i = X at *
    have e3 : IntKind.i64.wrap X = X := w64_in (by omega) (by omega)
    have e4 : IntKind.i64.wrap (totC i (ckE es) f + X) = totC (i + 1) (ckE es) f := by rw [et]; exact w64_in (by omega) (by omega)
    rw [e3, e4, i64_inc (by omega)]
    refine stC0 (A5z.stC (by simp) fun g kp A5g => ?_)
    exact mu_next (I := I3) (k := m - (i + 1)) ⟨i + 1, rfl, him, rfl, (y.trans' x100).of_kp kp hb5, (A1y.ext x100).kp kp n1_, (A3y.ext x100).kp kp n3_, A5g⟩ (hlt3 him)
  · have : i = m := by have := of_decide_eq_false h1; omega
    subst this
    exact ⟨rfl, A5y, y⟩
end

end Go.Proofs.Ytkdnnfpmppmmcaa

namespace Go.Proofs.Ytkdnnfpmppmmcaa
open Go
set_option linter.unusedVariables false
set_option linter.unusedSimpArgs false

section
variable {h : H} {w : List Value} {n m l : Nat} {es : Nat → Ed} {sv on pot side : Value} {bf f p : Nat → Int} {sd : Nat → Bool}
theorem Cheap_ok (G : GrA h w n m es) (gd : Gd n m es) (hs : supOK n n bf) (Z : RS h sv (ints n bf)) (S : RS h on (ints m f)) (Q : RS h pot (ints n p))
    (Pl : PlanP n m (frE es) (toE es) (cpE es) bf f) (Pt : PotP m (frE es) (toE es) (cpE es) (ckE es) f p) (pb : ∀ v, v < n → -4398046511104 ≤ p v ∧ p v ≤ 4398046511104) :
    T Try.prog F.proof_Cheapest [.agg ⟨w⟩, .agg ⟨plV sv on pot⟩] h fun r h' => r = .ret (.tuple ⟨[.int .i64 (totC m (ckE es) f), .int .i64 0]⟩) ∧ Ext h h' := by
  refine E_proof_Cheapest ?_
  unfold B_proof_Cheapest
  refine new_bl ?_
  intro b1 q2 hb1 x1 A1
  refine new_bl ?_
  intro b3 q4 hb3 x3 A3
  have A1 := A1.ext x3
  have x13 := x1.trans' x3
  refine new_bl ?_
  intro b5 q6 hb5 x5 A5
  refine stC0 (A5.stC (by simp) fun q7 kp A5 => ?_)
  have x47 := x5.of_kp kp hb5
  have xh := x13.trans' x47
  have ne1 : b1 ≠ b5 := by
    rintro rfl
    obtain ⟨e, k⟩ := A1
    rw [hb5] at k; cases k
  have ne3 : b3 ≠ b5 := by
    rintro rfl
    obtain ⟨e, k⟩ := A3
    rw [hb5] at k; cases k
  refine look_T (Cheap_c1 (G.ext xh) gd hs (A1.ext x47) (A3.ext x47) A5 (Z.ext xh) (S.ext xh) (Q.ext xh) Pl Pt pb q4 x47 hb5 (G.ext x13) (S.ext x13) ne1 ne3) ?_
  rintro r h1 h2 ⟨rfl, B5, x⟩ x2
  exact .inl ⟨rfl, rt_ret ⟨_, rfl, ldI0 ⟨_, (B5.ext x2).ld rfl, rfl, (x13.trans' x).trans' x2⟩⟩⟩

theorem Cheap_c1_no {n : Int} {b1 b3 b5 : Nat} (G : GrA h w n m es) (hn : ¬ ((faultG n m es).1 = 0 ∧ n = 0)) (A1 : Bl h b1 w) (A3 : Bl h b3 plZ) :
    T Try.prog F.proof_Cheapest_c1 [.pointer (some (bk b1)), .pointer (some (bk b3)), .pointer (some (bk b5))] h
      fun r h' => (∃ c, r = .pan (gvV c)) ∧ Ext h h' := by
  refine E_proof_Cheapest_c1 ?_
  unfold B_proof_Cheapest_c1
  refine ptrP_mk (A1.ldN G.one.1 ((right_T G).mono ?_))
  rintro _ q4 ⟨x4, ⟨h0, rfl⟩ | ⟨_, rfl⟩⟩
  rotate_left
  · exact ⟨⟨_, rfl⟩, x4⟩
  have hn2 : ¬ (n < 0 ∨ 1024 < n) := by
    intro h1
    unfold faultG at h0
    rw [if_pos (by omega)] at h0
    exact absurd h0 (by show (3 : Int) ≠ 0; omega)
  obtain ⟨n', rfl⟩ : ∃ n' : Nat, n = n' := ⟨n.toNat, by omega⟩
  refine rt_ret ⟨rfl, ptrP_mk ((A1.ext x4).ldN G.one.1 (ptrP_mk ⟨_, (A3.ext x4).ld rfl, (psup_T (l := 0) (bf := fun _ => 0) (G.ext x4) (by omega) RS.nil0).mono ?_⟩))⟩
  rintro _ q5 ⟨x5, ⟨hs, _⟩ | ⟨_, c, rfl⟩⟩
  · exact absurd ⟨h0, by have := hs.1; omega⟩ hn
  exact ⟨⟨_, rfl⟩, x4.trans' x5⟩

theorem Cheap_no {n : Int} (G : GrA h w n m es) :
    T Try.prog F.proof_Cheapest [.agg ⟨w⟩, .agg ⟨plZ⟩] h fun r h' => (∃ x j : Int, r = .ret (.tuple ⟨[.int .i64 x, .int .i64 j]⟩)) ∧ Ext h h' := by
  by_cases hn : (faultG n m es).1 = 0 ∧ n = 0
  · obtain ⟨h0, hz⟩ := hn
    have hz : n = (0 : Nat) := by omega
    subst hz
    have gd : Gd 0 m es := Gd.iff.1 h0
    have m0 : m = 0 := by
      cases m with
      | zero => rfl
      | succ m => have := (gd.fr (Nat.succ_pos m)).2; omega
    subst m0
    refine (Cheap_ok (bf := fun _ => 0) (f := fun _ => 0) (p := fun _ => 0) G gd ⟨rfl, fun v hv => by omega, rfl⟩ RS.nil0 RS.nil0 RS.nil0 ⟨fun i hi => by omega, fun v hv => by omega⟩ (fun i hi => by omega) fun v hv => by omega).mono ?_
    rintro r q ⟨rfl, x⟩
    exact ⟨⟨_, _, rfl⟩, x⟩
  refine E_proof_Cheapest ?_
  unfold B_proof_Cheapest
  refine new_bl ?_
  intro b1 q2 hb1 x1 A1
  refine new_bl ?_
  intro b3 q4 hb3 x3 A3
  have A1 := A1.ext x3
  have x13 := x1.trans' x3
  refine new_bl ?_
  intro b5 q6 hb5 x5 A5
  refine stC0 (A5.stC (by simp) fun q7 kp A5 => ?_)
  have x47 := x5.of_kp kp hb5
  have xh := x13.trans' x47
  refine look_T (Cheap_c1_no (G.ext xh) hn (A1.ext x47) (A3.ext x47)) ?_
  rintro r h1 h2 ⟨⟨c, rfl⟩, x⟩ x2
  have x72 := x.trans' x2
  exact .inr ⟨c, rfl, rt_ret ⟨_, rfl, ldI0 ⟨_, (A5.ext x72).ld rfl, ⟨_, _, rfl⟩, xh.trans' x72⟩⟩⟩

end

end Go.Proofs.Ytkdnnfpmppmmcaa

namespace Go.Proofs.Ytkdnnfpmppmmcaa
open Go
set_option linter.unusedVariables false
set_option linter.unusedSimpArgs false

/-- append(p, q...): q is only read, however long. -/
theorem S1.catL {own : Own} {h : H} {i : Nat} {p q z : Value} {vs ws : List Value} {K : Value → H → Prop} {e bytes : Nat} (s : S1 own h i p vs) (s2 : RS h q ws)
    (one : ∀ v ∈ ws, v.oneCell' = true) (hb : bytes ≤ 8) (hl : vs.length + ws.length ≤ 17592186043904)
    (k : ∀ p' own' h', Fm [i] own h own' h' → S1 own' h' i p' (vs ++ ws) → K p' h') :
    apP p q h 1 e bytes [z] K := by
  have hzl : ∀ m, (zrep [z] m).length = m := by intro m; simp [zrep]
  obtain ⟨qa, qc, rfl, hsrc⟩ := s2.src
  rcases s with ⟨rfl, rfl⟩ | ⟨b, hob, c, eb, zs, rfl, h2, h3⟩
  · refine ⟨ws, hsrc, fun hle => ?_, fun hlt => ⟨?_, [], ⟨rfl, rfl⟩, fun cap hcap => ?_⟩⟩
    · have : ws = [] := List.length_eq_zero_iff.1 (by omega)
      subst this
      exact ⟨rfl, k _ own h Fm.refl (.inl ⟨rfl, rfl⟩)⟩
    · have := nextcap_le hlt
      calc _ ≤ (2 * (0 + ws.length) + 192) * bytes := Nat.mul_le_mul_right _ this
        _ ≤ (2 * (0 + ws.length) + 192) * 8 := Nat.mul_le_mul_left _ hb
        _ ≤ _ := by simp at hl; omega
    · refine new_put ?_
      intro b g hbn x e1
      rw [Nat.zero_add] at e1 hcap ⊢
      refine k _ (own1 own b i) g (Fm.new x hbn) (.inr ⟨b, own1_at, cap, e, zrep [z] (cap - ws.length), rfl, by rw [e1], ?_⟩)
      rw [hzl]; simp; omega
  · refine ⟨ws, hsrc, fun hle => ⟨fun _ => ?_, one, ?_⟩, fun hlt => ⟨?_, vs, ⟨by rw [Nat.mul_one], ?_⟩, fun cap hcap => ?_⟩⟩
    · rw [bk_add]
      refine ⟨_, _, h2, rfl, ?_⟩
      simp only [List.size_toArray, List.length_append]
      omega
    · rw [bk_add]
      have e2 : hset h ⟨b, vs.length * 1, none⟩ ws b = some (.cells ⟨vs ++ ws ++ zs.drop ws.length⟩ eb (0, 0)) := by
        unfold hset
        rw [if_pos rfl, h2]
        simp only [Option.map_some, Nat.mul_one]
        rw [setR_list _ _ _ (by simp; omega)]
        simp [List.take_append, List.drop_append]
      refine k _ own _ (Fm.kp (b := b) ?_ hob ⟨_, e2⟩) (.inr ⟨b, hob, c, eb, zs.drop ws.length, by simp, e2, by simp; omega⟩)
      intro j o hj hh
      unfold hset
      rw [if_neg hj]; exact hh
    · have := nextcap_le hlt
      calc _ ≤ (2 * (vs.length + ws.length) + 192) * bytes := Nat.mul_le_mul_right _ this
        _ ≤ (2 * (vs.length + ws.length) + 192) * 8 := Nat.mul_le_mul_left _ hb
        _ ≤ _ := by omega
    · intro j v hj
      rw [bk_add, hcell_at h2, List.getElem?_toArray]
      have := (List.getElem?_eq_some_iff.1 hj).1
      rw [List.getElem?_append_left this]
      exact hj
    · refine new_put ?_
      intro b' g hbn x e1
      refine k _ (own1 own b' i) g (Fm.new x hbn) (.inr ⟨b', own1_at, cap, e, zrep [z] (cap - (vs.length + ws.length)), by simp, by rw [e1], ?_⟩)
      rw [hzl]; simp; omega

section
variable {own own' : Own} {h h' : H} {i l : Nat} {v x : Value} {vs : List Value}
/-- The list without its last. -/
theorem S1.cut1 (s : S1 own h i v (vs ++ [x])) (hl : vs.length = l) : ∃ b c, v = .slice (some (bk b)) (l + 1) c ∧ l + 1 ≤ c := by
  rcases s with ⟨e, _⟩ | ⟨b, hb, c, e, zs, h1, h2, h3⟩
  · simp at e
  · simp only [List.length_append, List.length_singleton, hl] at h1 h3
    exact ⟨b, c, h1, by omega⟩
theorem S1.take1 {b c : Nat} (s : S1 own h i (.slice (some (bk b)) (l + 1) c) (vs ++ [x])) (hl : vs.length = l) : S1 own h i (.slice (some (bk b)) l c) vs := by
  rcases s with ⟨e, _⟩ | ⟨b_, hb, c_, e, zs, h1, h2, h3⟩
  · simp at e
  · rw [Value.slice.injEq, Option.some.injEq] at h1
    obtain ⟨eb, _, rfl⟩ := h1
    have eb : b = b_ := by simpa [bk] using eb
    subst eb
    simp only [List.length_append, List.length_singleton] at h3
    exact .inr ⟨b, hb, c, e, x :: zs, by rw [hl], by rw [h2]; simp, by simp; omega⟩
theorem sliceV1_0 {b c k : Nat} (hc : 0 < c) : sliceV (some (bk b)) c 0 (k : Int) 1 = .slice (some (bk b)) k c := by
  unfold sliceV
  rw [if_neg (by simp; omega)]
  simp [bk, Addr.add]
/-- Owners renamed. -/
def sgO (own : Own) : Own := fun c => if own c = 0 then 0 else own c + 100
theorem S1.sg (s : S1 own h i v vs) (hi : i ≠ 0) : S1 (sgO own) h (i + 100) v vs := by
  rcases s with s | ⟨b, hb, s⟩
  · exact .inl s
  · exact .inr ⟨b, by unfold sgO; rw [hb, if_neg hi], s⟩
theorem Bs.sg (bs : Bs h own h') : Bs h (sgO own) h' := ⟨bs.ext, fun b o e => by unfold sgO; rw [bs.old b o e]; rfl⟩
end

theorem ixS_mono {x : Value} {i : Int} {sz : Nat} {K K' : Addr → Prop} (H : ixS x i sz K) (k : ∀ a, K a → K' a) : ixS x i sz K' := by
  revert H
  unfold ixS
  split
  · exact fun ⟨a, b, c⟩ => ⟨a, b, k _ c⟩
  · exact id

/-- The second answer. -/
def Ck (n : Int) (m l : Nat) (es : Nat → Ed) (bf : Nat → Int) (own : Own) (q : H) (pl : List Value) (c e : Int) : Prop :=
  (e ≠ 0 ∧ pl = plZ) ∨ (e = 0 ∧ n = l ∧ Gd l m es ∧ supOK l l bf ∧ ∃ (vs von vp : Value) (f p : Nat → Int), pl = plV vs von vp ∧ c = totC m (ckE es) f ∧
    S1 own q 124 vs (ints l bf) ∧ S1 own q 123 von (ints m f) ∧ S1 own q 107 vp (ints l p) ∧ PlanP l m (frE es) (toE es) (cpE es) bf f ∧ PotP m (frE es) (toE es) (cpE es) (ckE es) f p ∧
    ∀ v, v < l → -1073741824 ≤ p v ∧ p v ≤ 1073741824)
section
variable {n : Int} {m l : Nat} {es : Nat → Ed} {bf : Nat → Int} {own own' : Own} {q q' : H} {pl : List Value} {c e : Int}
theorem Ck.fm {M : List Nat} (B : Ck n m l es bf own q pl c e) (F : Fm M own q own' q') (h8 : 124 ∉ M ∧ 123 ∉ M ∧ 107 ∉ M) : Ck n m l es bf own' q' pl c e := by
  rcases B with B | ⟨a1, a2, a3, a4, vs, von, vp, f, p, a5, a6, k1, k2, k3, a7⟩
  · exact .inl B
  · exact .inr ⟨a1, a2, a3, a4, vs, von, vp, f, p, a5, a6, k1.fm F h8.1, k2.fm F h8.2.1, k3.fm F h8.2.2, a7⟩
theorem Ck.nw {b j : Nat} (B : Ck n m l es bf own q pl c e) (x : Ext q q') (hb : q b = none) : Ck n m l es bf (own1 own b j) q' pl c e :=
  B.fm (M := []) (Fm.new x hb) (by simp)
theorem Ck.one (B : Ck n m l es bf own q pl c e) : pl.length = 3 ∧ ∀ v ∈ pl, v.oneCell' = true := by
  rcases B with ⟨_, rfl⟩ | ⟨a1, a2, a3, a4, vs, von, vp, f, p, rfl, a6, k1, k2, k3, a7⟩
  · exact ⟨rfl, plZ_one⟩
  · refine ⟨rfl, fun v hv => ?_⟩
    simp only [List.mem_cons, List.not_mem_nil, or_false] at hv
    rcases hv with rfl | rfl | rfl
    · exact k1.one
    · exact k2.one
    · exact k3.one
end

section
variable {h : H} {w : List Value} {n : Int} {m l : Nat} {es : Nat → Ed} {sv : Value} {bf : Nat → Int}
theorem CostKeeps_T (G : GrA h w n m es) (hm : m ≤ 4398046511104) (Z : RS h sv (ints l bf)) (hl : l ≤ 17592186043904) (k : Int) :
    T Try.prog F.compasslaw14_CostKeeps [.agg ⟨w⟩, sv, .int .i64 k] h fun r h' => r = .ret (.bool true) ∧ Ext h h' := by
  refine E_compasslaw14_CostKeeps ?_
  unfold B_compasslaw14_CostKeeps
  obtain ⟨gv, rfl, Gv⟩ := G.gs
  refine new_bl ?_
  intro b1 q1 hb1 x1 B1_
  refine awake14_R.mono ?_
  rintro _ q4 ⟨rfl, x4⟩
  refine rt_ret ⟨_, rfl, ifP_of (fun h => by cases h) (fun _ => ?_)⟩
  have xh := x1.trans' x4
  have B1_ := B1_.ext x4
  have G := G.ext xh
  have Gv := Gv.ext xh
  have Z := Z.ext xh
  clear x1 x4 hb1
  refine B1_.ldN G.one.1 ((Copy_R G hm).mono ?_)
  rintro _ q8 ⟨ev, own, rfl, bs, k1⟩
  refine rt_ret ⟨_, rfl, rfl, new_bl_st rfl rfl (by intro v hv; simp only [List.mem_cons, List.mem_nil_iff, or_false] at hv; rcases hv with rfl | rfl; rfl; exact slc_one k1.isS) ?_⟩
  intro b10 q12 hb10 x10 B10
  have bs := bs.nw (j := 2) x10 hb10
  have k1 := k1.nw (j := 2) x10 hb10
  have k2 : B1 (own1 own b10 2) q12 2 b10 _ := B1.new B10
  generalize own1 own b10 2 = own at *
  refine ⟨_, k2.ld rfl, _, (B1_.ext bs.ext).ld rfl, (Gv.ext bs.ext).len fun _ _ => ⟨rfl, ?_⟩⟩
  refine k1.push (ed := ⟨0, 0, -7, 0⟩) hm ?_
  intro b18 q19 p' own' q21 hb18 x18 F k1
  have bs0 := bs.ext
  have bs := bs.fm F (by simp <;> omega)
  have k2 := k2.fm F (by simp <;> omega)
  refine ⟨sameAt_bl (B1_.ext (bs0.trans' x18)) (B1_.ext bs.ext), ?_⟩
  clear bs0 x18 hb18 F B10 x10 hb10
  obtain ⟨bp, c, rfl, hc⟩ := k1.cut
  refine slcP_mk ⟨by omega, by omega, by omega, by omega, ?_⟩
  rw [sliceV_0 (by omega)]
  refine oneP_mk (k2.st (j := 1) (by simp) ?_)
  intro q25 F k2
  have bs := bs.fm F (by simp <;> omega)
  have k1 := k1.fm F (by simp <;> omega)
  have tk : ∀ {own : Own} {q : H}, S4 own q 1 (.slice (some (bk bp)) (m + 1) c) (m + 1) (fun j => if j = m then ⟨0, 0, -7, 0⟩ else es j) → Gs q (.slice (some (bk bp)) m c) m es :=
    fun k1 => k1.gs.take fun j hj => if_neg (by omega)
  -- the supplies
  refine new_bl ?_
  intro b26 q27 hb26 x26 B26
  have bs := bs.nw (j := 3) x26 hb26
  have k1 := k1.nw (j := 3) x26 hb26
  have k2 := k2.nw (j := 3) x26 hb26
  have k3 : S1 (own1 own' b26 3) q27 3 (.slice (some (bk b26)) 0 0) [] := let ⟨e, he⟩ := B26; .inr ⟨b26, own1_at, 0, e, [], rfl, he, rfl⟩
  generalize own1 own' b26 3 = own at *
  refine k3.catL (Z.ext bs.ext) (ints_o1 _ _) (by omega) (by rw [ints_length]; simp; omega) ?_
  intro s28 own' q29 F k3
  have bs := bs.fm F (by simp <;> omega)
  have k1 := k1.fm F (by simp <;> omega)
  have k2 := k2.fm F (by simp <;> omega)
  rw [List.nil_append] at k3
  refine k3.push1 rfl (by omega) (by rw [ints_length]; omega) ?_
  intro b30 q31 s32 own2 q33 hb30 x30 F k3
  have bs := bs.fm F (by simp <;> omega)
  have k1 := k1.fm F (by simp <;> omega)
  have k2 := k2.fm F (by simp <;> omega)
  obtain ⟨bl, cl, rfl, hcl⟩ := k3.cut1 (ints_length _ _)
  refine (Z.ext bs.ext).len (ints_length _ _) fun _ _ => slcP_mk ⟨by omega, by omega, by omega, by omega, ?_⟩
  rw [sliceV1_0 (by omega)]
  clear F hb30 x30 hb26 x26 B26
  refine k2.ldN rfl ((MSolve_T ((tk k1).gr n) (RS.of_S1 (k3.take1 (ints_length _ _))) k).mono ?_)
  rintro r q42 ⟨x42, hS⟩
  obtain ⟨own, c1, sv1, e1, lo, lp, vs, von, vp, fs, fo, fp, rfl, bs, k1, k2, k3, k24, k23, k7, hlo, hlp⟩ : ∃ (own : Own) (c1 : Int) (sv1 : Value) (e1 : Int) (lo lp : Nat) (vs von vp : Value) (fs fo fp : Nat → Int),
      r = .ret (.tuple ⟨[.agg ⟨plV vs von vp⟩, .int .i64 c1, sv1, .int .i64 e1]⟩) ∧ Bs q4 own q42 ∧ S4 own q42 1 (.slice (some (bk bp)) (m + 1) c) (m + 1) (fun j => if j = m then ⟨0, 0, -7, 0⟩ else es j) ∧
      B1 own q42 2 b10 [.int .i64 n, .slice (some (bk bp)) m c] ∧ S1 own q42 3 (.slice (some (bk bl)) (l + 1) cl) (ints l bf ++ [.int .i64 77]) ∧
      S1 own q42 24 vs (ints lp fs) ∧ S1 own q42 23 von (ints lo fo) ∧ S1 own q42 7 vp (ints lp fp) ∧ lo ≤ 1000000 ∧ lp ≤ 1000000 := by
    rcases hS with ⟨hw, rfl⟩ | ⟨hw, hnl, gd, ⟨ow, vs, von, vp, f, p, rfl, bo, P⟩ | ⟨bsd, sd, rfl, hbs, S, _⟩⟩
    · have FX : Fm [] own2 q33 own2 q42 := Fm.of_ext x42
      exact ⟨own2, 0, _, _, 0, 0, _, _, _, fun _ => 0, fun _ => 0, fun _ => 0, rfl, bs.fm FX (by simp <;> omega), k1.fm FX (by simp <;> omega), k2.fm FX (by simp <;> omega), k3.fm FX (by simp <;> omega), S1.nil, S1.nil, S1.nil, by omega, by omega⟩
    · have FX : Fm [] own2 q33 (mgO q33 own2 ow) q42 := bo.mg
      have m1 := gd.m1
      have n1 := gd.n1
      exact ⟨_, _, _, _, m, l, vs, von, vp, bf, f, p, rfl, bs.fm FX (by simp <;> omega), k1.fm FX (by simp <;> omega), k2.fm FX (by simp <;> omega), k3.fm FX (by simp <;> omega), P.s.mg bo (by omega), P.o.mg bo (by omega), P.po.mg bo (by omega), by omega, by omega⟩
    · have FX : Fm [] own2 q33 own2 q42 := Fm.of_ext x42
      exact ⟨own2, 0, _, _, 0, 0, _, _, _, fun _ => 0, fun _ => 0, fun _ => 0, rfl, bs.fm FX (by simp <;> omega), k1.fm FX (by simp <;> omega), k2.fm FX (by simp <;> omega), k3.fm FX (by simp <;> omega), S1.nil, S1.nil, S1.nil, by omega, by omega⟩
  refine rt_ret ⟨_, rfl, _, _, _, rfl, new_bl_st rfl rfl (by intro v hv; simp only [List.mem_cons, List.mem_nil_iff, or_false] at hv; rcases hv with rfl | rfl | rfl; exact k24.one; exact k23.one; exact k7.one) ?_⟩
  intro b47 q49 hb47 x47 B47
  have k9 : B1 (own1 own b47 9) q49 9 b47 _ := B1.new B47
  have bs := bs.nw (j := 9) x47 hb47
  have k1 := k1.nw (j := 9) x47 hb47
  have k2 := k2.nw (j := 9) x47 hb47
  have k3 := k3.nw (j := 9) x47 hb47
  have k24 := k24.nw (j := 9) x47 hb47
  have k23 := k23.nw (j := 9) x47 hb47
  have k7 := k7.nw (j := 9) x47 hb47
  generalize own1 own b47 9 = own at *
  clear hb47 x47 B47 x42
  refine k2.ldN rfl ((MSolve_T ((tk k1).gr n) (RS.of_S1 (k3.take1 (ints_length _ _))) k).mono ?_)
  rintro r q52 ⟨x52, hS⟩
  obtain ⟨own2, pl2, c2, sv2, e2, rfl, bs, k1, k2, k3, k24, k23, k7, k9, kb⟩ : ∃ (own2 : Own) (pl2 : List Value) (c2 : Int) (sv2 : Value) (e2 : Int), r = .ret (.tuple ⟨[.agg ⟨pl2⟩, .int .i64 c2, sv2, .int .i64 e2]⟩) ∧
      Bs q4 own2 q52 ∧ S4 own2 q52 1 (.slice (some (bk bp)) (m + 1) c) (m + 1) (fun j => if j = m then ⟨0, 0, -7, 0⟩ else es j) ∧
      B1 own2 q52 2 b10 [.int .i64 n, .slice (some (bk bp)) m c] ∧ S1 own2 q52 3 (.slice (some (bk bl)) (l + 1) cl) (ints l bf ++ [.int .i64 77]) ∧
      S1 own2 q52 24 vs (ints lp fs) ∧ S1 own2 q52 23 von (ints lo fo) ∧ S1 own2 q52 7 vp (ints lp fp) ∧ B1 own2 q52 9 b47 (plV vs von vp) ∧ Ck n m l es bf own2 q52 pl2 c2 e2 := by
    rcases hS with ⟨hw, rfl⟩ | ⟨hw, hnl, gd, ⟨ow, vs, von, vp, f, p, rfl, bo, P⟩ | ⟨bsd, sd, rfl, hbs, S, _⟩⟩
    · have FX : Fm [] own q49 own q52 := Fm.of_ext x52
      exact ⟨own, _, _, _, _, rfl, bs.fm FX (by simp <;> omega), k1.fm FX (by simp <;> omega), k2.fm FX (by simp <;> omega), k3.fm FX (by simp <;> omega), k24.fm FX (by simp <;> omega), k23.fm FX (by simp <;> omega), k7.fm FX (by simp <;> omega), k9.fm FX (by simp <;> omega), .inl ⟨hw, rfl⟩⟩
    · have FX : Fm [] own q49 (mgO q49 own (sgO ow)) q52 := bo.sg.mg
      have hs := (wrong14_0 hw).2.2.1
      exact ⟨_, _, _, _, _, rfl, bs.fm FX (by simp <;> omega), k1.fm FX (by simp <;> omega), k2.fm FX (by simp <;> omega), k3.fm FX (by simp <;> omega), k24.fm FX (by simp <;> omega), k23.fm FX (by simp <;> omega), k7.fm FX (by simp <;> omega), k9.fm FX (by simp <;> omega),
        .inr ⟨rfl, hnl, gd, hs, vs, von, vp, f, p, rfl, rfl, (P.s.sg (by omega)).mg bo.sg (by omega), (P.o.sg (by omega)).mg bo.sg (by omega), (P.po.sg (by omega)).mg bo.sg (by omega), P.pl, P.pt, P.pb⟩⟩
    · have FX : Fm [] own q49 own q52 := Fm.of_ext x52
      exact ⟨own, _, _, _, _, rfl, bs.fm FX (by simp <;> omega), k1.fm FX (by simp <;> omega), k2.fm FX (by simp <;> omega), k3.fm FX (by simp <;> omega), k24.fm FX (by simp <;> omega), k23.fm FX (by simp <;> omega), k7.fm FX (by simp <;> omega), k9.fm FX (by simp <;> omega), .inl ⟨by omega, rfl⟩⟩
  clear hS x52
  refine rt_ret ⟨_, kb.one.1, _, _, _, rfl, new_bl_st kb.one.1 rfl kb.one.2 ?_⟩
  intro b57 q59 hb57 x57 B57
  have k10 : B1 (own1 own2 b57 10) q59 10 b57 _ := B1.new B57
  have bs := bs.nw (j := 10) x57 hb57
  have k1 := k1.nw (j := 10) x57 hb57
  have k2 := k2.nw (j := 10) x57 hb57
  have k3 := k3.nw (j := 10) x57 hb57
  have k24 := k24.nw (j := 10) x57 hb57
  have k23 := k23.nw (j := 10) x57 hb57
  have k7 := k7.nw (j := 10) x57 hb57
  have k9 := k9.nw (j := 10) x57 hb57
  have kb := kb.nw (j := 10) x57 hb57
  generalize own1 own2 b57 10 = own at *
  clear hb57 x57 B57
  refine ⟨fun _ q => Ext q59 q, ?_, ?_⟩
  · refine k2.ldN rfl ((B1_.ext bs.ext).ldN rfl ((Same_R ((tk k1).gr n) (G.ext bs.ext) hm).mono ?_))
    rintro _ q65 ⟨rfl, x65⟩
    have FX : Fm [] own q59 own q65 := Fm.of_ext x65
    have bs := bs.fm FX (by simp <;> omega)
    have k1 := k1.fm FX (by simp <;> omega)
    have k2 := k2.fm FX (by simp <;> omega)
    have k3 := k3.fm FX (by simp <;> omega)
    have C1 := B1_.ext bs.ext
    have Gq := Gv.ext bs.ext
    have Zq := Z.ext bs.ext
    refine rt_ret ⟨_, rfl, ifP_of (fun h => by cases h) (fun _ => ?_)⟩
    refine ⟨_, k2.ld rfl, _, C1.ld rfl, Gq.len fun _ _ => slcP_mk ?_⟩
    rw [i64_inc (by omega)]
    refine ⟨by omega, by omega, by omega, by omega, _, C1.ld rfl, Gq.len fun _ _ => ?_⟩
    rw [sliceV_0 (by omega)]
    refine k1.gs.c (i := m) (by omega) ?_
    rw [if_pos rfl]
    refine ifP_of (fun h => by simp at h) (fun _ => ?_)
    refine (longs_R (RS.of_S1 (k3.take1 (ints_length _ _))) Zq (fun _ _ => rfl) (by omega)).mono ?_
    rintro _ _ ⟨rfl, rfl⟩
    refine rt_ret ⟨_, rfl, ifP_of (fun h => by cases h) (fun _ => ?_)⟩
    refine Zq.len (ints_length _ _) fun _ _ => slcP_mk ?_
    rw [i64_inc (by omega)]
    refine ⟨by omega, by omega, by omega, by omega, Zq.len (ints_length _ _) fun _ _ => ?_⟩
    rw [sliceV1_0 (by omega)]
    refine k3.rd (j := l) (x := 77) ?_ (ifP_of (fun h => by simp at h) (fun _ => x65))
    rw [List.getElem?_append_right (by rw [ints_length]; exact Nat.le_refl _), ints_length, Nat.sub_self]
    rfl
  intro q61 x61
  have FX : Fm [] own q59 own q61 := Fm.of_ext x61
  have k3 := k3.take1 (ints_length _ _)
  have bs := bs.fm FX (by simp <;> omega)
  have k3 := k3.fm FX (by simp <;> omega)
  have k24 := k24.fm FX (by simp <;> omega)
  have k23 := k23.fm FX (by simp <;> omega)
  have k7 := k7.fm FX (by simp <;> omega)
  have k9 := k9.fm FX (by simp <;> omega)
  have k10 := k10.fm FX (by simp <;> omega)
  have kb := kb.fm FX (by simp)
  clear FX x61 k1 k2
  refine ⟨_, k9.ld rfl, k23.len (ints_length _ _) fun _ _ => ?_⟩
  let I : (Int × Unit) → H → Nat → Prop := fun p q z => ∃ (j : Nat) (f' : Nat → Int), p.1 = j ∧ j ≤ lo ∧ z = lo - j ∧ Fm [23] own q61 own q ∧ S1 own q 23 von (ints lo f')
  refine ⟨fun p q => ∃ k, I p q k, rk I, rk_wf I, ⟨_, 0, fo, rfl, by omega, rfl, Fm.refl, k23⟩, ?_⟩
  clear k23
  intro p q hI
  obtain ⟨j, f', e1_, hj, hk2, Fq, k23⟩ := mu_spec hI
  generalize hkk : mu I ((p, ()), q) = km at *
  change p = (j : Int) at e1_
  subst e1_
  have hlt : j < lo → lo - (j + 1) < mu I (((j : Int), ()), q) := fun h => by rw [hkk, hk2]; exact sub_dec h
  clear hI
  refine ifP_of (fun h1 => ?_) (fun h1 => ?_)
  · have hjl : j < lo := by have := of_decide_eq_true h1; omega
    refine ⟨_, (k9.fm Fq (by simp <;> omega)).ld rfl, k23.setI hjl ?_⟩
    intro q83 F k23
    rw [i64_inc (by omega)]
    exact mu_next (I := I) (k := lo - (j + 1)) ⟨j + 1, _, rfl, hjl, rfl, Fq.trans F, k23⟩ (hlt hjl)
  clear hlt hkk hk2 h1 hj k23
  have bs := bs.fm Fq (by simp <;> omega)
  have k3 := k3.fm Fq (by simp <;> omega)
  have k24 := k24.fm Fq (by simp <;> omega)
  have k7 := k7.fm Fq (by simp <;> omega)
  have k9 := k9.fm Fq (by simp <;> omega)
  have k10 := k10.fm Fq (by simp <;> omega)
  have kb := kb.fm Fq (by simp)
  clear Fq
  refine ⟨_, k9.ld rfl, k7.len (ints_length _ _) fun _ _ => ?_⟩
  let I2 : (Int × Unit) → H → Nat → Prop := fun p q2 z => ∃ (j : Nat) (f' g' : Nat → Int), p.1 = j ∧ j ≤ lp ∧ z = lp - j ∧ Fm [7, 24] own q own q2 ∧ S1 own q2 7 vp (ints lp f') ∧ S1 own q2 24 vs (ints lp g')
  refine ⟨fun p q => ∃ k, I2 p q k, rk I2, rk_wf I2, ⟨_, 0, fp, fs, rfl, by omega, rfl, Fm.refl, k7, k24⟩, ?_⟩
  clear k7 k24
  intro p q2 hI
  obtain ⟨j, f', g', e1_, hj, hk2, Fq, k7, k24⟩ := mu_spec hI
  generalize hkk : mu I2 ((p, ()), q2) = km at *
  change p = (j : Int) at e1_
  subst e1_
  have hlt : j < lp → lp - (j + 1) < mu I2 (((j : Int), ()), q2) := fun h => by rw [hkk, hk2]; exact sub_dec h
  clear hI
  refine ifP_of (fun h1 => ?_) (fun h1 => ?_)
  · have hjl : j < lp := by have := of_decide_eq_true h1; omega
    have k9q := k9.fm Fq (by simp <;> omega)
    refine ⟨_, k9q.ld rfl, ixS_mono (k7.setI hjl ?_) fun a H => ⟨_, k9q.ld rfl, H⟩⟩
    intro q121 F7 k7
    have k24 := k24.fm F7 (by simp <;> omega)
    refine ⟨sameAt_bl k9q.bl (k9q.fm F7 (by simp <;> omega)).bl, k24.setI hjl ?_⟩
    intro q123 F8 k24
    have k7 := k7.fm F8 (by simp <;> omega)
    rw [i64_inc (by omega)]
    exact mu_next (I := I2) (k := lp - (j + 1)) ⟨j + 1, _, _, rfl, hjl, rfl, (Fq.trans (F7.mono (by simp))).trans (F8.mono (by simp)), k7, k24⟩ (hlt hjl)
  clear hlt hkk hk2 h1 hj k7 k24
  have bs := bs.fm Fq (by simp <;> omega)
  have k3 := k3.fm Fq (by simp <;> omega)
  have k9 := k9.fm Fq (by simp <;> omega)
  have k10 := k10.fm Fq (by simp <;> omega)
  have kb := kb.fm Fq (by simp)
  clear Fq
  refine (longs_R (RS.of_S1 k3) (Z.ext bs.ext) (fun _ _ => rfl) (by omega)).mono ?_
  rintro _ _ ⟨rfl, rfl⟩
  refine rt_ret ⟨_, rfl, ifP_of (fun h => by cases h) (fun _ => slcP_mk ?_)⟩
  let I3 : (Int × Unit) → H → Nat → Prop := fun p q3 z => ∃ (j : Nat) (f' : Nat → Int), p.1 = j ∧ j ≤ l ∧ z = l - j ∧ Fm [3] own q2 own q3 ∧ S1 own q3 3 (.slice (some (bk bl)) l cl) (ints l f')
  refine ⟨fun p q => ∃ k, I3 p q k, rk I3, rk_wf I3, ⟨_, 0, bf, rfl, by omega, rfl, Fm.refl, k3⟩, ?_⟩
  clear k3
  intro p q3 hI
  obtain ⟨j, f', e1_, hj, hk2, Fq, k3⟩ := mu_spec hI
  generalize hkk : mu I3 ((p, ()), q3) = km at *
  change p = (j : Int) at e1_
  subst e1_
  have hlt : j < l → l - (j + 1) < mu I3 (((j : Int), ()), q3) := fun h => by rw [hkk, hk2]; exact sub_dec h
  clear hI
  refine ifP_of (fun h1 => ?_) (fun h1 => ?_)
  · have hjl : j < l := by have := of_decide_eq_true h1; omega
    refine k3.setI hjl ?_
    intro q83 F k3
    rw [i64_inc (by omega)]
    exact mu_next (I := I3) (k := l - (j + 1)) ⟨j + 1, _, rfl, hjl, rfl, Fq.trans F, k3⟩ (hlt hjl)
  clear hlt hkk hk2 h1 hj k3
  have bs := bs.fm Fq (by simp <;> omega)
  have k10 := k10.fm Fq (by simp <;> omega)
  have kb := kb.fm Fq (by simp)
  have x := xh.trans' bs.ext
  have G := G.ext bs.ext
  refine (B1_.ext bs.ext).ldN rfl (k10.ldN kb.one.1 ?_)
  rcases kb with ⟨he, rfl⟩ | ⟨rfl, rfl, gd, hs, vs, von, vp, f, p, rfl, rfl, k124, k123, k107, Pl, Pt, pb⟩
  · refine (Cheap_no G).mono ?_
    rintro _ q60 ⟨⟨y, z, rfl⟩, x60⟩
    exact rt_ret ⟨_, _, rfl, ifP_of (fun _ => ⟨rfl, x.trans' x60⟩) (fun h => absurd (by simpa using h) he)⟩
  · refine (Cheap_ok G gd hs (RS.of_S1 k124) (RS.of_S1 k123) (RS.of_S1 k107) Pl Pt fun v hv => by have := pb v hv; omega).mono ?_
    rintro _ q60 ⟨rfl, x60⟩
    refine rt_ret ⟨_, _, rfl, ifP_of (fun h => by simp at h) (fun _ => ifP_of (fun _ => ⟨by simp, x.trans' x60⟩) (fun h => by simp at h))⟩
end

end Go.Proofs.Ytkdnnfpmppmmcaa

