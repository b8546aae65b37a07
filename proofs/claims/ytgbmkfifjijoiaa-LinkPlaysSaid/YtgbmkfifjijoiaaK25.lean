import Derived.Test.YtgbmkfifjijoiaaK24
/-! The document's forest: Add and New. -/
namespace Go.Proofs.Ytgbmkfifjijoiaa
open Go
set_option linter.unusedVariables false

theorem Sl.bump {h : H} {b : Nat} {v : Value} {n i : Nat} {f : Nat → Int} {x : Int} {K : H → Prop} (s : Sl h b v (ints n f)) (hi : i < n)
    (k : ∀ g, Kp b h g → Sl g b v (ints n (upd f i (IntKind.i64.wrap (f i + x)))) → K g) :
    ixS v (i : Int) 1 fun a => ldI h a .i64 fun y => ixS v (i : Int) 1 fun a2 => stC h a2 (.int .i64 (IntKind.i64.wrap (y + x))) K := by
  have g := s.get (ints_get hi)
  have s2 := s.setI hi k
  obtain ⟨c, e, zs, h1, h2, h3⟩ := s
  subst h1
  rw [ints_length] at s2 ⊢
  exact nx hi ⟨_, g, s2⟩

section
variable {ok : Nat → Prop} {h : H} {w : List Value} {n : Nat} {par tv : Nat → Int}

theorem Add_R (r : RF ok h w n par tv) (Fo : Fst n par tv) (hn : n ≤ 1024) (hok : ∀ b, h b = none → ok b) (v x : Int)
    (hr : isL x → ∀ w, w < n → -9223372036854775808 ≤ tv w + x ∧ tv w + x < 9223372036854775808) :
    T Try.prog F.compassref07_Add [.agg ⟨w⟩, .int .i64 v, .int .i64 x] h fun r h' => Ext h h' ∧ ∃ c w' tv', r = .ret (.tuple ⟨[.agg ⟨w'⟩, .int .i64 c]⟩) ∧
      AddS n par tv v x c tv' ∧ RF ok h' w' n par tv' := by
  refine E_compassref07_Add ?_
  unfold B_compassref07_Add
  refine new_bl ?_
  intro b1 g1 hb1 x1 B1
  refine new_bl ?_
  intro b3 g3 hb3 x3 B3
  have x13 := x1.trans' x3
  have hb3h := x1.new hb3
  have hw := r.one
  have B1' := B1.ext x3
  have same : ∀ {g : H} {c : Int}, Ext g3 g → AddS n par tv v x c tv →
      ldN g (bk b1) 2 fun x9 => stN g (bk b3) x9 2 fun h10 => ldN h10 (bk b3) 2 fun x11 =>
        Ext h h10 ∧ ∃ c' w' tv', Res.ret (.tuple ⟨[.agg ⟨x11⟩, .int .i64 c]⟩) = .ret (.tuple ⟨[.agg ⟨w'⟩, .int .i64 c']⟩) ∧ AddS n par tv v x c' tv' ∧ RF ok h10 w' n par tv' := by
    intro g c xg s
    refine ret_w (B1'.ext xg) (B3.ext xg) rfl hw.1 hw.2 ?_
    intro g' kp
    have xh := (x13.trans' xg).of_kp kp hb3h
    exact ⟨xh, c, w, tv, rfl, s, r.ext xh⟩
  refine B1'.ldN hw.1 ?_
  refine (node_R (r.ext x13) v).mono ?_
  rintro _ g4 ⟨rfl, x4⟩
  refine ⟨_, rfl, ifP_of (fun h0 => ?_) (fun h0 => ?_)⟩
  · exact same x4 (.node fun hh => by simp [hh] at h0)
  have hv : isN n v := by simpa using h0
  refine ifP_of (fun h2 => ?_) (fun h2 => ?_)
  · exact same x4 (.label hv fun hh => by have := of_decide_eq_true h2; unfold isL at hh; omega)
  refine ifP_of (fun h3 => ?_) (fun h3 => ?_)
  · exact same x4 (.label hv fun hh => by have := of_decide_eq_true h3; unfold isL at hh; omega)
  have hx : isL x := by
    have := of_decide_eq_false h2
    have := of_decide_eq_false h3
    unfold isL; omega
  have rng := hr hx
  obtain ⟨v, rfl, hvn⟩ := hv.nat
  have xh4 := x13.trans' x4
  have B1g := B1'.ext x4
  have B3g := B3.ext x4
  refine B1g.ldN hw.1 ?_
  refine (Copy_R (r.ext xh4) hn).mono ?_
  rintro _ g7 ⟨x7, w7, rfl, C⟩
  obtain ⟨p7, q7, bp, bq, rfl, sp, sq, npq⟩ := C.ex
  refine ⟨_, rfl, rfl, ?_⟩
  have n0 : 0 < n := by omega
  obtain ⟨fp0, sp0⟩ := sp.sl n0
  obtain ⟨fq0, sq0⟩ := sq.sl n0
  have one7 : ∀ y ∈ [p7, q7], y.oneCell' = true := by
    intro y hy
    simp only [List.mem_cons, List.mem_nil_iff, or_false] at hy
    rcases hy with rfl | rfl
    · exact slc_one sp.isS
    · exact slc_one sq.isS
  refine new_bl_st rfl rfl one7 ?_
  intro b22 g8 hb22 x8 B8
  have slne : ∀ {g : H} {b c : Nat} {p : Value} {f : Nat → Int}, Sl g b p (ints n f) → g c = none → b ≠ c := by
    rintro g b c p f ⟨_, _, _, _, h2, _⟩ hc rfl
    rw [hc] at h2; cases h2
  have np := slne sp0 hb22
  have nq := slne sq0 hb22
  have sp8 : Sl g8 bp p7 (ints n par) := sp0.kp (Ext.kp x8 b22) np
  have sq8 : Sl g8 bq q7 (ints n tv) := sq0.kp (Ext.kp x8 b22) nq
  have n3p : b3 ≠ bp := B3g.ne fp0
  have n3q : b3 ≠ bq := B3g.ne fq0
  have n1q : b1 ≠ bq := B1g.ne fq0
  have xh8 := (xh4.trans' x7).trans' x8
  have hp0 := xh4.new fp0
  have hq0 := xh4.new fq0
  obtain ⟨lst, hup, hlt⟩ := UpW.exists Fo v hvn
  obtain ⟨pv, vv, hwe, a, b⟩ := r.ex
  let I25 : (Int × Unit) → H → Nat → Prop := fun s g k => ∃ (done rest : List Nat) (u : Nat), lst = done ++ rest ∧ UpW par u rest ∧ u < n ∧ s.1 = u ∧ k = rest.length ∧
    Ext h g ∧ Bl g b1 w ∧ Bl g b22 [p7, q7] ∧ (∃ z, z.length = 2 ∧ Bl g b3 z) ∧ Sl g bp p7 (ints n par) ∧ Sl g bq q7 (ints n (addT tv done x))
  have e0 : addT tv [] x = tv := by funext y; exact if_neg (by simp)
  refine ⟨fun s g => ∃ k, I25 s g k, rk I25, rk_wf I25, ⟨_, [], lst, v, rfl, hup, hvn, rfl, rfl, xh8, (B1g.ext x7).ext x8, B8, ⟨_, rfl, (B3g.ext x7).ext x8⟩, sp8, by rw [e0]; exact sq8⟩, ?_⟩
  intro u' g hI
  obtain ⟨done, rest, u, hsplit, hur, hun, e1, hk, xg, Bg, B22, ⟨z3, hz3, Bz3⟩, spg, sqg⟩ := mu_spec hI
  generalize hkk : mu I25 ((u', ()), g) = k at *
  change u' = (u : Int) at e1
  subst e1
  refine ⟨_, Bg.ld (v := pv) (by rw [hwe]; rfl), a.ix hun fun ad hc => ⟨_, xg.cell hc, ?_⟩⟩
  refine ifP_of (fun h1 => ?_) (fun h1 => ?_)
  · obtain ⟨q, hq, hqn⟩ := up_nat Fo hun (of_decide_eq_true h1)
    cases hur with
    | root hp => omega
    | @step _ q' rest' hq' hur' =>
      have : q' = q := by omega
      subst this
      refine ⟨_, B22.ld rfl, ?_⟩
      refine sqg.bump hun ?_
      intro g' kp' sq'
      have xg' := xg.of_kp kp' hq0
      refine ⟨_, (Bg.kp kp' n1q).ld (v := pv) (by rw [hwe]; rfl), a.ix hun fun ad4 hc4 => ⟨_, xg'.cell hc4, ?_⟩⟩
      rw [hq]
      have hud : u ∉ done := by
        have hnd := hup.nodup Fo hvn
        rw [hsplit] at hnd
        intro hm
        exact (List.nodup_append.1 hnd).2.2 u hm u (by simp) rfl
      have ef : upd (addT tv done x) u (IntKind.i64.wrap (addT tv done x u + x)) = addT tv (done ++ [u]) x := by
        funext y
        have e2 : addT tv done x u = tv u := if_neg hud
        have e3 : IntKind.i64.wrap (tv u + x) = tv u + x := w64_in (rng u hun).1 (rng u hun).2
        rw [e2, e3]
        unfold upd addT
        by_cases hy : y = u
        · subst hy; simp
        · simp [hy]
      rw [ef] at sq'
      exact mu_next (I := I25) (k := rest'.length) ⟨done ++ [u], rest', q', by rw [hsplit]; simp, hur', hqn, rfl, rfl, xg', Bg.kp kp' n1q, B22.kp kp' (fun e => nq e.symm), ⟨z3, hz3, Bz3.kp kp' n3q⟩, spg.kp kp' npq, sq'⟩ (by rw [hkk, hk]; simp)
  · have h1 := of_decide_eq_false h1
    have hpu : par u = -1 := by rcases Fo.pt u hun with e | ⟨y, e, _⟩ <;> omega
    have h2 := hur.uniq (.root hpu)
    subst h2
    refine ret_w B22 Bz3 hz3 rfl one7 ?_
    intro g' kp'
    refine ⟨xg.of_kp kp' hb3h, 0, _, addT tv (edges par lst) x, rfl, .ok hv hx (by rw [Int.toNat_natCast]; exact hup), ⟨p7, q7, rfl, .inr ⟨bp, hok bp hp0, spg.kp kp' (fun e => n3p e.symm)⟩, .inr ⟨bq, hok bq hq0, ?_⟩⟩⟩
    have ee : addT tv (edges par lst) x = addT tv done x := by
      funext y
      unfold addT
      have := edges_split (by rw [hsplit] at hup; exact hup) y
      rw [← hsplit] at this
      by_cases hy : y ∈ done
      · rw [if_pos hy, if_pos (this.2 hy)]
      · rw [if_neg hy, if_neg (fun h => hy (this.1 h))]
    rw [ee]
    exact sqg.kp kp' (fun e => n3q e.symm)
end

theorem New_R (h : H) (hok : Nat → Prop) (n : Int) (hk : ∀ b, h b = none → hok b) :
    T Try.prog F.compassref07_New [.int .i64 n] h fun r h' => Ext h h' ∧
      (((n < 0 ∨ 1024 < n) ∧ ∃ w, w.length = 2 ∧ (∀ v ∈ w, v.oneCell' = true) ∧ r = .ret (.tuple ⟨[.agg ⟨w⟩, .int .i64 3]⟩)) ∨
       (0 ≤ n ∧ n ≤ 1024 ∧ ∃ w, r = .ret (.tuple ⟨[.agg ⟨w⟩, .int .i64 0]⟩) ∧ RF hok h' w n.toNat (fun _ => -1) (fun _ => 0))) := by
  refine E_compassref07_New ?_
  unfold B_compassref07_New
  refine new_bl ?_
  intro b1 g1 hb1 x1 B1
  have bad : (n < 0 ∨ 1024 < n) → stN g1 (bk b1) [.slice none 0 0, .slice none 0 0] 2 fun h3 => ldN h3 (bk b1) 2 fun x4 =>
      Ext h h3 ∧ (((n < 0 ∨ 1024 < n) ∧ ∃ w, w.length = 2 ∧ (∀ v ∈ w, v.oneCell' = true) ∧ Res.ret (.tuple ⟨[.agg ⟨x4⟩, .int .i64 3]⟩) = .ret (.tuple ⟨[.agg ⟨w⟩, .int .i64 3]⟩)) ∨
       (0 ≤ n ∧ n ≤ 1024 ∧ ∃ w, Res.ret (.tuple ⟨[.agg ⟨x4⟩, .int .i64 3]⟩) = .ret (.tuple ⟨[.agg ⟨w⟩, .int .i64 0]⟩) ∧ RF hok h3 w n.toNat (fun _ => -1) (fun _ => 0))) := by
    intro hb
    refine B1.stN rfl rfl (by simp [Value.oneCell']) ?_
    intro g kp B
    refine B.ldN rfl ?_
    exact ⟨x1.of_kp kp hb1, .inl ⟨hb, _, rfl, by simp [Value.oneCell'], rfl⟩⟩
  refine ifP_of (fun h1 => bad (.inl (of_decide_eq_true h1))) (fun h1 => ?_)
  have h1 := of_decide_eq_false h1
  refine ifP_of (fun h2 => bad (.inr (of_decide_eq_true h2))) (fun h2 => ?_)
  have h2 := of_decide_eq_false h2
  obtain ⟨m, rfl⟩ : ∃ m : Nat, n = m := ⟨n.toNat, by omega⟩
  refine ⟨by omega, Int.le_refl _, by omega, by omega, ?_⟩
  refine new_put ?_
  intro b7 g8 hb7 x8 e7
  refine ⟨by omega, Int.le_refl _, by omega, by omega, ?_⟩
  refine new_put ?_
  intro b9 g10 hb9 x10 e9
  refine new_bl_st rfl rfl (by simp [Value.oneCell']) ?_
  intro b11 g13 hb11 x13 B11
  rw [Int.toNat_natCast] at *
  rw [ints_zrep] at e7 e9
  have s7 : Sl g13 b7 (.slice (some (bk b7)) m m) (ints m fun i => if i < 0 then -1 else 0) := ⟨m, _, [], by rw [ints_length], by rw [List.append_nil]; exact (x13 _ _ (x10 _ _ e7)), by rw [ints_length]; rfl⟩
  have s9 : Sl g13 b9 (.slice (some (bk b9)) m m) (ints m fun _ => 0) := ⟨m, _, [], by rw [ints_length], by rw [List.append_nil]; exact (x13 _ _ e9), by rw [ints_length]; rfl⟩
  have h7 := x1.new hb7
  have h9 := (x1.trans' x8).new hb9
  have n79 : b7 ≠ b9 := by rintro rfl; rw [hb9] at e7; cases e7
  have n711 : b7 ≠ b11 := by rintro rfl; rw [x10 _ _ e7] at hb11; cases hb11
  have n17 : b1 ≠ b7 := B1.ne hb7
  have n19 : b1 ≠ b9 := (B1.ext x8).ne hb9
  have B1' := ((B1.ext x8).ext x10).ext x13
  have xh := ((x1.trans' x8).trans' x10).trans' x13
  let I14 : (Int × Unit) → H → Nat → Prop := fun s g k => ∃ i : Nat, s.1 = i ∧ i ≤ m ∧ k = m - i ∧ Ext h g ∧ Bl g b1 [.slice none 0 0, .slice none 0 0] ∧
    Bl g b11 [.slice (some (bk b7)) m m, .slice (some (bk b9)) m m] ∧ Sl g b7 (.slice (some (bk b7)) m m) (ints m fun j => if j < i then -1 else 0) ∧ Sl g b9 (.slice (some (bk b9)) m m) (ints m fun _ => 0)
  refine ⟨fun s g => ∃ k, I14 s g k, rk I14, rk_wf I14, ⟨_, 0, rfl, by omega, rfl, xh, B1', B11, s7, s9⟩, ?_⟩
  intro s g hI
  obtain ⟨i, e1, him, hkm, xg, Bg1, Bg11, t7, t9⟩ := mu_spec hI
  generalize hkk : mu I14 ((s, ()), g) = k at *
  change s = (i : Int) at e1
  subst e1
  refine ifP_of (fun h3 => ?_) (fun h3 => ?_)
  · have him : i < m := by have := of_decide_eq_true h3; omega
    refine ⟨_, Bg11.ld rfl, ?_⟩
    refine t7.setI him ?_
    intro g' kp t7'
    have ef : upd (fun j => if j < i then -1 else 0) i (-1) = fun j => if j < i + 1 then -1 else 0 := by
      funext j
      unfold upd
      by_cases hj : j = i
      · subst hj; rw [if_pos rfl, if_pos (by omega)]
      · rw [if_neg hj]
        show (if j < i then (-1 : Int) else 0) = if j < i + 1 then -1 else 0
        by_cases h : j < i
        · rw [if_pos h, if_pos (by omega)]
        · rw [if_neg h, if_neg (by omega)]
    rw [ef] at t7'
    rw [i64_inc (by omega)]
    exact mu_next (I := I14) (k := m - (i + 1)) ⟨i + 1, rfl, him, rfl, xg.of_kp kp h7, Bg1.kp kp n17, Bg11.kp kp (fun e => n711 e.symm), t7', t9.kp kp (fun e => n79 e.symm)⟩ (by rw [hkk, hkm]; omega)
  · have him2 : i = m := by have := of_decide_eq_false h3; omega
    subst him2
    refine Bg11.ldN rfl ?_
    refine Bg1.stN rfl rfl (by simp [Value.oneCell']) ?_
    intro g' kp B
    refine B.ldN rfl ?_
    have e3 : ints i (fun j => if j < i then (-1 : Int) else 0) = ints i fun _ => -1 := ints_ext fun j hj => if_pos hj
    rw [e3] at t7
    exact ⟨xg.of_kp kp hb1, .inr ⟨by omega, by omega, _, rfl, ⟨_, _, rfl, .inr ⟨b7, hk b7 h7, t7.kp kp (fun e => n17 e.symm)⟩, .inr ⟨b9, hk b9 h9, t9.kp kp (fun e => n19 e.symm)⟩⟩⟩⟩

end Go.Proofs.Ytgbmkfifjijoiaa
