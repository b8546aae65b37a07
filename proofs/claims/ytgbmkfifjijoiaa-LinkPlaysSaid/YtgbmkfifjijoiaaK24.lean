import Derived.Test.YtgbmkfifjijoiaaK23
/-! The document's forest: Cut, Least. -/
namespace Go.Proofs.Ytgbmkfifjijoiaa
open Go
set_option linter.unusedVariables false

theorem sameAt_ext {h g g' : H} {a : Addr} {n : Nat} {v : Value} (x : Ext h g) (x' : Ext h g') (hc : hcell h a = some v) : sameAt n a g g' := by
  refine sameAt_of ?_
  unfold hcell at hc
  split at hc
  · rename_i c e f hb
    rw [x _ _ hb, x' _ _ hb]
  · cases hc
theorem sameAt_bl {g g' : H} {b i n : Nat} {vs : List Value} (B : Bl g b vs) (B' : Bl g' b vs) : sameAt n ((bk b).add i) g g' := by
  obtain ⟨e, h1⟩ := B
  obtain ⟨e', h2⟩ := B'
  intro j _
  rw [bk_add, bk_add2, hcell_at h1, hcell_at h2]

section
variable {ok : Nat → Prop} {h : H} {w : List Value} {n : Nat} {par tv : Nat → Int}

theorem Cut_R (r : RF ok h w n par tv) (Fo : Fst n par tv) (hn : n ≤ 1024) (hok : ∀ b, h b = none → ok b) (v : Int) :
    T Try.prog F.compassref07_Cut [.agg ⟨w⟩, .int .i64 v] h fun r h' => Ext h h' ∧ ∃ w', r = .ret (.tuple ⟨[.agg ⟨w'⟩, .int .i64 (if childC n par v = 0 then tv v.toNat else 0), .int .i64 (childC n par v)]⟩) ∧
      (childC n par v = 0 → RF ok h' w' n (upd par v.toNat (-1)) (upd tv v.toNat 0)) ∧ (childC n par v ≠ 0 → RF ok h' w' n par tv) := by
  refine E_compassref07_Cut ?_
  unfold B_compassref07_Cut
  refine new_bl ?_
  intro b1 g1 hb1 x1 B1
  refine new_bl ?_
  intro b3 g3 hb3 x3 B3
  have x13 := x1.trans' x3
  have hb3h := x1.new hb3
  have hw := r.one
  have B1' := B1.ext x3
  refine B1'.ldN hw.1 ?_
  refine (Child_R (r.ext x13) Fo v).mono ?_
  rintro _ g4 ⟨rfl, x4⟩
  refine ⟨_, rfl, ifP_of (fun h0 => ?_) (fun h0 => ?_)⟩
  · have h0 : ¬ childC n par v = 0 := by simpa using h0
    refine ret_w (B1'.ext x4) (B3.ext x4) rfl hw.1 hw.2 ?_
    intro g' kp
    have xh := (x13.trans' x4).of_kp kp hb3h
    rw [if_neg h0]
    exact ⟨xh, w, rfl, fun h => absurd h h0, fun _ => r.ext xh⟩
  have h0 : childC n par v = 0 := by simpa using h0
  have hv : isN n v := by
    apply Classical.byContradiction
    intro hh
    unfold childC at h0
    rw [if_neg hh] at h0
    omega
  obtain ⟨v, rfl, hvn⟩ := hv.nat
  rw [h0, if_pos rfl, Int.toNat_natCast]
  have xh4 := x13.trans' x4
  have B1g := B1'.ext x4
  have B3g := B3.ext x4
  refine B1g.ldN hw.1 ?_
  refine (Copy_R (r.ext xh4) hn).mono ?_
  rintro _ g7 ⟨x7, w7, rfl, C⟩
  obtain ⟨p7, q7, bp, bq, rfl, sp, sq, npq⟩ := C.ex
  refine ⟨_, rfl, rfl, ?_⟩
  have n0 : 0 < n := by omega
  obtain ⟨fp0, sp0⟩ := sp.sl n0
  obtain ⟨fq0, sq0⟩ := sq.sl n0
  have one7 : ∀ y ∈ [p7, q7], y.oneCell' = true := by
    intro y hy
    simp only [List.mem_cons, List.mem_nil_iff, or_false] at hy
    rcases hy with rfl | rfl
    · exact slc_one sp.isS
    · exact slc_one sq.isS
  refine new_bl_st rfl rfl one7 ?_
  intro b43 g8 hb43 x8 B8
  have slne : ∀ {g : H} {b c : Nat} {p : Value} {f : Nat → Int}, Sl g b p (ints n f) → g c = none → b ≠ c := by
    rintro g b c p f ⟨_, _, _, _, h2, _⟩ hc rfl
    rw [hc] at h2; cases h2
  have np := slne sp0 hb43
  have nq := slne sq0 hb43
  have sp8 : Sl g8 bp p7 (ints n par) := sp0.kp (Ext.kp x8 b43) np
  have sq8 : Sl g8 bq q7 (ints n tv) := sq0.kp (Ext.kp x8 b43) nq
  have n3p : b3 ≠ bp := B3g.ne fp0
  have n3q : b3 ≠ bq := B3g.ne fq0
  have n1p : b1 ≠ bp := B1g.ne fp0
  have n1q : b1 ≠ bq := B1g.ne fq0
  have n13 : b1 ≠ b3 := B1.ne hb3
  have xh8 := (xh4.trans' x7).trans' x8
  have hp0 := xh4.new fp0
  have hq0 := xh4.new fq0
  refine ⟨_, B8.ld rfl, ?_⟩
  refine sp8.setI hvn ?_
  intro g9 k9 sp9
  have B9 := B8.kp k9 (fun e => np e.symm)
  have sq9 := sq8.kp k9 (fun e => npq e.symm)
  refine ⟨_, B9.ld rfl, ?_⟩
  refine sq9.setI hvn ?_
  intro g10 k10 sq10
  have B10 := B9.kp k10 (fun e => nq e.symm)
  have sp10 := sp9.kp k10 npq
  have B3' := (((B3g.ext x7).ext x8).kp k9 n3p).kp k10 n3q
  have B1'' := (((B1g.ext x7).ext x8).kp k9 n1p).kp k10 n1q
  have xh10 := (xh8.of_kp k9 hp0).of_kp k10 hq0
  refine B10.ldN rfl ?_
  obtain ⟨pv, vv, hwe, a, b⟩ := r.ex
  refine ⟨_, B1''.ld (v := vv) (by rw [hwe]; rfl), ?_⟩
  refine b.ix hvn ?_
  intro ad hc
  refine ⟨_, xh10.cell hc, ?_⟩
  refine B3'.stN rfl rfl one7 ?_
  intro g11 k11 B11
  have xh11 := xh10.of_kp k11 hb3h
  refine ⟨sameAt_ext xh10 xh11 hc, sameAt_bl B1'' (B1''.kp k11 n13), ?_⟩
  refine B11.ldN rfl ?_
  refine ⟨xh11, _, rfl, fun _ => ?_, fun h => absurd rfl h⟩
  exact ⟨p7, q7, rfl, .inr ⟨bp, hok bp hp0, sp10.kp k11 (fun e => n3p e.symm)⟩, .inr ⟨bq, hok bq hq0, sq10.kp k11 (fun e => n3q e.symm)⟩⟩

theorem Least_R (r : RF ok h w n par tv) (Fo : Fst n par tv) (hn : n ≤ 1024) (v : Int) :
    T Try.prog F.compassref07_Least [.agg ⟨w⟩, .int .i64 v] h fun r h' => Ext h h' ∧ ∃ a m c, r = .ret (.tuple ⟨[.int .i64 a, .int .i64 m, .int .i64 c]⟩) ∧ LeastS n par tv v a m c := by
  refine E_compassref07_Least ?_
  unfold B_compassref07_Least
  refine new_bl ?_
  intro b1 g1 hb1 x1 B1
  refine B1.ldN r.one.1 ?_
  refine (Child_R (r.ext x1) Fo v).mono ?_
  rintro _ g2 ⟨rfl, x2⟩
  have xh := x1.trans' x2
  refine ⟨_, rfl, ifP_of (fun h0 => ?_) (fun h0 => ?_)⟩
  · have h0 : ¬ childC n par v = 0 := by simpa using h0
    exact ⟨xh, _, _, _, rfl, .bad h0⟩
  have h0 : childC n par v = 0 := by simpa using h0
  have hv : isN n v := by
    apply Classical.byContradiction
    intro hh
    unfold childC at h0
    rw [if_neg hh] at h0
    omega
  obtain ⟨v, rfl, hvn⟩ := hv.nat
  have hpv : par v ≠ -1 := by
    intro hp
    rw [childC_nat hvn, if_pos hp] at h0
    omega
  obtain ⟨lst, hup, hlt⟩ := UpW.exists Fo v hvn
  have B2 := B1.ext x2
  obtain ⟨pv, vv, hwe, a, b⟩ := (r.ext xh).ex
  let I7 : (Int × Int × Unit) → H → Nat → Prop := fun s g k => ∃ (done rest : List Nat) (best u : Nat), lst = done ++ rest ∧ UpW par u rest ∧ u < n ∧ best < n ∧ s.1 = best ∧ s.2.1 = u ∧ k = rest.length ∧ g = g2 ∧
    ((done = [] ∧ best = v ∧ u = v) ∨ ∃ A B, done = A ++ best :: B ∧ (∀ y ∈ A, tv best ≤ tv y) ∧ ∀ y ∈ B, tv best < tv y)
  refine ⟨fun s g => ∃ k, I7 s g k, rk I7, rk_wf I7, ⟨_, [], lst, v, v, rfl, hup, hvn, hvn, rfl, rfl, rfl, rfl, .inl ⟨rfl, rfl, rfl⟩⟩, ?_⟩
  intro best' u' g hI
  obtain ⟨done, rest, best, u, hsplit, hur, hun, hbn, e1, e2, hk, rfl, hb⟩ := mu_spec hI
  generalize hkk : mu I7 ((best', u', ()), g) = k at *
  change best' = (best : Int) at e1
  change u' = (u : Int) at e2
  subst e1 e2
  refine ⟨_, B2.ld (v := pv) (by rw [hwe]; rfl), a.ix hun fun ad hc => ⟨_, hc, ?_⟩⟩
  refine ifP_of (fun h1 => ?_) (fun h1 => ?_)
  · obtain ⟨q, hq, hqn⟩ := up_nat Fo hun (of_decide_eq_true h1)
    cases hur with
    | root hp => omega
    | @step _ q' rest' hq' hur' =>
      have : q' = q := by omega
      subst this
      refine ⟨_, B2.ld (v := vv) (by rw [hwe]; rfl), b.ix hun fun ad2 hc2 => ⟨_, hc2, ?_⟩⟩
      refine ⟨_, B2.ld (v := vv) (by rw [hwe]; rfl), b.ix hbn fun ad3 hc3 => ⟨_, hc3, ?_⟩⟩
      refine ifP_of (fun h2 => ?_) (fun h2 => ?_)
      · have h2 := of_decide_eq_true h2
        refine ⟨_, B2.ld (v := pv) (by rw [hwe]; rfl), a.ix hun fun ad4 hc4 => ⟨_, hc4, ?_⟩⟩
        rw [hq]
        refine mu_next (I := I7) (k := rest'.length) ⟨done ++ [u], rest', u, q', by rw [hsplit]; simp, hur', hqn, hun, rfl, rfl, rfl, rfl, .inr ⟨done, [], by simp, ?_, by simp⟩⟩ (by rw [hkk, hk]; simp)
        intro y hy
        rcases hb with ⟨hd, _, _⟩ | ⟨A, B, hd, hA, hB⟩
        · rw [hd] at hy; cases hy
        · rw [hd] at hy
          simp only [List.mem_append, List.mem_cons] at hy
          rcases hy with h | rfl | h
          · have := hA y h; omega
          · exact h2
          · have := hB y h; omega
      · have h2 := of_decide_eq_false h2
        refine ⟨_, B2.ld (v := pv) (by rw [hwe]; rfl), a.ix hun fun ad4 hc4 => ⟨_, hc4, ?_⟩⟩
        rw [hq]
        rcases hb with ⟨_, hb1, hb2⟩ | ⟨A, B, hd, hA, hB⟩
        · rw [hb1, hb2] at h2; omega
        · refine mu_next (I := I7) (k := rest'.length) ⟨done ++ [u], rest', best, q', by rw [hsplit]; simp, hur', hqn, hbn, rfl, rfl, rfl, rfl, .inr ⟨A, B ++ [u], by rw [hd]; simp, hA, ?_⟩⟩ (by rw [hkk, hk]; simp)
          intro y hy
          rcases List.mem_append.1 hy with h | h
          · exact hB y h
          · have : y = u := by simpa using h
            subst this; omega
  · have h1 := of_decide_eq_false h1
    have hpu : par u = -1 := by rcases Fo.pt u hun with e | ⟨y, e, _⟩ <;> omega
    have h2 := hur.uniq (.root hpu)
    subst h2
    refine ⟨_, B2.ld (v := vv) (by rw [hwe]; rfl), b.ix hbn fun ad2 hc2 => ⟨_, hc2, ?_⟩⟩
    rcases hb with ⟨_, hb1, hb2⟩ | ⟨A, B, hd, hA, hB⟩
    · subst hb2; exact absurd hpu hpv
    · subst hd
      refine ⟨xh, _, _, _, rfl, .ok (A := A) (B := B) (r := u) h0 ?_ hA hB⟩
      rw [Int.toNat_natCast, ← hsplit]
      exact hup
end

end Go.Proofs.Ytgbmkfifjijoiaa
