import Derived.Test.YtgbmkfifjijoiaaK22
/-! The document's forest: Link and Cut. -/
namespace Go.Proofs.Ytgbmkfifjijoiaa
open Go
set_option linter.unusedVariables false

theorem Ext.new {h g : H} {b : Nat} (x : Ext h g) (hb : g b = none) : h b = none := by
  cases e : h b with
  | none => rfl
  | some o => rw [x _ _ e] at hb; cases hb

/-- out := f; return out, .. -/
theorem ret_w {h : H} {b1 b3 : Nat} {w z : List Value} {K : List Value → H → Prop} (B1 : Bl h b1 w) (B3 : Bl h b3 z) (hz : z.length = 2) (hw : w.length = 2) (one : ∀ v ∈ w, v.oneCell' = true)
    (k : ∀ g, Kp b3 h g → K w g) : ldN h (bk b1) 2 fun x => stN h (bk b3) x 2 fun g => ldN g (bk b3) 2 fun y => K y g := by
  refine B1.ldN hw ?_
  refine B3.stN hw hz one ?_
  intro g kp B
  exact B.ldN hw (k g kp)

theorem SN.si {ok : Nat → Prop} {h g : H} {v : Value} {n : Nat} {f : Nat → Int} {b : Nat} (s : SN h g v n f b) (hok : ∀ b, h b = none → ok b) : SI ok g v n f := by
  rcases s with s | ⟨hb, s⟩
  · exact .inl s
  · exact .inr ⟨b, hok b hb, s⟩
theorem SN.sl {h g : H} {v : Value} {n : Nat} {f : Nat → Int} {b : Nat} (s : SN h g v n f b) (hn : 0 < n) : h b = none ∧ Sl g b v (ints n f) := by
  rcases s with ⟨s, _⟩ | s
  · omega
  · exact s

section
variable {ok : Nat → Prop} {h : H} {w : List Value} {n : Nat} {par tv : Nat → Int}

theorem Link_R (r : RF ok h w n par tv) (Fo : Fst n par tv) (hn : n ≤ 1024) (hok : ∀ b, h b = none → ok b) (v u x : Int) :
    T Try.prog F.compassref07_Link [.agg ⟨w⟩, .int .i64 v, .int .i64 u, .int .i64 x] h fun r h' => Ext h h' ∧ ∃ c w' par' tv', r = .ret (.tuple ⟨[.agg ⟨w'⟩, .int .i64 c]⟩) ∧
      LinkS n par tv v u x c par' tv' ∧ RF ok h' w' n par' tv' := by
  refine E_compassref07_Link ?_
  unfold B_compassref07_Link
  refine new_bl ?_
  intro b1 g1 hb1 x1 B1
  refine new_bl ?_
  intro b3 g3 hb3 x3 B3
  have x13 := x1.trans' x3
  have hb3h := x1.new hb3
  have hw := r.one
  have B1' := B1.ext x3
  -- the forest as it was
  have same : ∀ {g : H} {c : Int}, Ext g3 g → LinkS n par tv v u x c par tv →
      ldN g (bk b1) 2 fun x9 => stN g (bk b3) x9 2 fun h10 => ldN h10 (bk b3) 2 fun x11 =>
        Ext h h10 ∧ ∃ c' w' par' tv', Res.ret (.tuple ⟨[.agg ⟨x11⟩, .int .i64 c]⟩) = .ret (.tuple ⟨[.agg ⟨w'⟩, .int .i64 c']⟩) ∧ LinkS n par tv v u x c' par' tv' ∧ RF ok h10 w' n par' tv' := by
    intro g c xg s
    refine ret_w (B1'.ext xg) (B3.ext xg) rfl hw.1 hw.2 ?_
    intro g' kp
    have xh := (x13.trans' xg).of_kp kp hb3h
    exact ⟨xh, c, w, par, tv, rfl, s, r.ext xh⟩
  refine B1'.ldN hw.1 ?_
  refine (node_R (r.ext x13) v).mono ?_
  rintro _ g4 ⟨rfl, x4⟩
  refine ⟨_, rfl, ifP_of (fun h0 => ?_) (fun h0 => ?_)⟩
  · exact same x4 (.node fun hh => by simp [hh.1] at h0)
  have hv : isN n v := by simpa using h0
  refine (B1'.ext x4).ldN hw.1 ?_
  refine (node_R ((r.ext x13).ext x4) u).mono ?_
  rintro _ g5 ⟨rfl, x5⟩
  have x45 := x4.trans' x5
  refine ⟨_, rfl, ifP_of (fun h1 => ?_) (fun h1 => ?_)⟩
  · exact same x45 (.node fun hh => by simp [hh.2] at h1)
  have hu : isN n u := by simpa using h1
  refine ifP_of (fun h2 => ?_) (fun h2 => ?_)
  · exact same x45 (.label hv hu fun hh => by have := of_decide_eq_true h2; unfold isL at hh; omega)
  refine ifP_of (fun h3 => ?_) (fun h3 => ?_)
  · exact same x45 (.label hv hu fun hh => by have := of_decide_eq_true h3; unfold isL at hh; omega)
  have hx : isL x := by
    have := of_decide_eq_false h2
    have := of_decide_eq_false h3
    unfold isL; omega
  have xg5 := x13.trans' x45
  have r5 := r.ext xg5
  obtain ⟨v, rfl, hvn⟩ := hv.nat
  obtain ⟨u, rfl, hun⟩ := hu.nat
  obtain ⟨pv, vv, hwe, a, b⟩ := r5.ex
  refine ⟨_, (B1'.ext x45).ld (v := pv) (by rw [hwe]; rfl), ?_⟩
  refine a.ix hvn ?_
  intro ad hc
  refine ⟨_, hc, ?_⟩
  refine ifP_of (fun h4 => ?_) (fun h4 => ?_)
  · exact same x45 (.root hv hu hx (by rw [Int.toNat_natCast]; have := of_decide_eq_true h4; omega))
  have hpv : par v = -1 := by
    have := of_decide_eq_false h4
    rcases Fo.pt v hvn with e | ⟨y, e, _⟩
    · exact e
    · omega
  refine (B1'.ext x45).ldN hw.1 ?_
  refine (Root_R r5 Fo hn u).mono ?_
  rintro _ g6 ⟨x6, ⟨hbad, _⟩ | ⟨u2, z, hu2, _, hrt, rfl⟩⟩
  · exact absurd hu hbad
  have hu2 : u2 = u := by omega
  subst hu2
  have x46 := x45.trans' x6
  refine ⟨_, _, rfl, ifP_of (fun h5 => ?_) (fun h5 => ?_)⟩
  · have h5 : z = v := by have := of_decide_eq_true h5; omega
    subst h5
    exact same x46 (.cycle hv hu hx (by rw [Int.toNat_natCast]; exact hpv) (by rw [Int.toNat_natCast, Int.toNat_natCast]; exact hrt))
  have hnr : ¬ Rt par u2 v := fun hh => by
    have := of_decide_eq_false h5
    exact this (by rw [hrt.uniq hh])
  refine (B1'.ext x46).ldN hw.1 ?_
  refine (Copy_R (r5.ext x6) hn).mono ?_
  rintro _ g7 ⟨x7, w7, rfl, C⟩
  obtain ⟨p7, q7, bp, bq, rfl, sp, sq, npq⟩ := C.ex
  refine ⟨_, rfl, rfl, ?_⟩
  have n0 : 0 < n := by omega
  obtain ⟨fp0, sp0⟩ := sp.sl n0
  obtain ⟨fq0, sq0⟩ := sq.sl n0
  refine new_bl_st rfl rfl (fun y hy => ?_) ?_
  · simp only [List.mem_cons, List.mem_nil_iff, or_false] at hy
    rcases hy with rfl | rfl
    · exact slc_one sp.isS
    · exact slc_one sq.isS
  intro b43 g8 hb43 x8 B8
  have slne : ∀ {g : H} {b c : Nat} {p : Value} {f : Nat → Int}, Sl g b p (ints n f) → g c = none → b ≠ c := by
    rintro g b c p f ⟨_, _, _, _, h2, _⟩ hc rfl
    rw [hc] at h2; cases h2
  have np := slne sp0 hb43
  have nq := slne sq0 hb43
  have sp8 : Sl g8 bp p7 (ints n par) := sp0.kp (Ext.kp x8 b43) np
  have sq8 : Sl g8 bq q7 (ints n tv) := sq0.kp (Ext.kp x8 b43) nq
  have B3g6 := (B3.ext x46)
  have n3p : b3 ≠ bp := B3g6.ne fp0
  have n3q : b3 ≠ bq := B3g6.ne fq0
  have xh6 := x13.trans' x46
  have xh8 := (xh6.trans' x7).trans' x8
  have hp0 := xh6.new fp0
  have hq0 := xh6.new fq0
  refine ⟨_, B8.ld rfl, ?_⟩
  refine sp8.setI hvn ?_
  intro g9 k9 sp9
  have B9 := B8.kp k9 (fun e => np e.symm)
  have sq9 := sq8.kp k9 (fun e => npq e.symm)
  refine ⟨_, B9.ld rfl, ?_⟩
  refine sq9.setI hvn ?_
  intro g10 k10 sq10
  have B10 := B9.kp k10 (fun e => nq e.symm)
  have sp10 := sp9.kp k10 npq
  have B3' := (((B3g6.ext x7).ext x8).kp k9 n3p).kp k10 n3q
  have xh10 := (xh8.of_kp k9 hp0).of_kp k10 hq0
  refine ret_w B10 B3' rfl rfl (fun y hy => ?_) ?_
  · simp only [List.mem_cons, List.mem_nil_iff, or_false] at hy
    rcases hy with rfl | rfl
    · exact slc_one sp.isS
    · exact slc_one sq.isS
  intro g11 k11
  refine ⟨xh10.of_kp k11 hb3h, 0, _, _, _, rfl, .ok hv hu hx (by rw [Int.toNat_natCast]; exact hpv) (by rw [Int.toNat_natCast, Int.toNat_natCast]; exact hnr), ⟨p7, q7, rfl, .inr ⟨bp, hok bp hp0, ?_⟩, .inr ⟨bq, hok bq hq0, ?_⟩⟩⟩
  · rw [Int.toNat_natCast]; exact sp10.kp k11 (fun e => n3p e.symm)
  · rw [Int.toNat_natCast]; exact sq10.kp k11 (fun e => n3q e.symm)
end

end Go.Proofs.Ytgbmkfifjijoiaa
