import Derived.Test.YtgbmkfifjijoiaaK25
/-! LinkPlays: the forest and the document's list of parents, side by side. -/
namespace Go.Proofs.Ytgbmkfifjijoiaa
open Go
set_option linter.unusedVariables false

theorem AddS.uniq {n : Nat} {par tv tv1 tv2 : Nat → Int} {v x c1 c2 : Int} (a : AddS n par tv v x c1 tv1) (b : AddS n par tv v x c2 tv2) : c1 = c2 ∧ tv1 = tv2 := by
  cases a with
  | node h => cases b with
    | node => exact ⟨rfl, rfl⟩
    | label h1 => exact absurd h1 h
    | ok h1 => exact absurd h1 h
  | label g1 g2 => cases b with
    | node h => exact absurd g1 h
    | label => exact ⟨rfl, rfl⟩
    | ok _ h2 => exact absurd h2 g2
  | ok g1 g2 g3 => cases b with
    | node h => exact absurd g1 h
    | label _ h2 => exact absurd g2 h2
    | ok _ _ h3 => rw [g3.uniq h3]; exact ⟨rfl, rfl⟩
theorem AddS.bd {n : Nat} {par tv tv' : Nat → Int} {v x c b : Int} (s : AddS n par tv v x c tv') (h : Bd n tv b) : Bd n tv' (b + 1048576) := by
  cases s with
  | ok _ hx _ =>
    intro w hw
    have := h w hw
    unfold isL at hx
    unfold addT
    split <;> omega
  | node _ => intro w hw; have := h w hw; omega
  | label _ _ => intro w hw; have := h w hw; omega
theorem least_key {tv : Nat → Int} {A B A' B' : List Nat} {a a' : Nat} (e : A ++ a :: B = A' ++ a' :: B') (hA : ∀ w ∈ A', tv a' ≤ tv w) (hB : ∀ w ∈ B, tv a < tv w)
    (t : List Nat) (ht : A' = A ++ t) : a = a' := by
  subst ht
  rw [List.append_assoc] at e
  have e := List.append_cancel_left e
  cases t with
  | nil => exact (List.cons.inj e).1
  | cons z t =>
    obtain ⟨h1, h2⟩ := List.cons.inj e
    subst h1
    have h3 := hB a' (by rw [h2]; simp)
    have h4 := hA a (by simp)
    omega
theorem LeastS.uniq {n : Nat} {par tv : Nat → Int} {v a1 m1 c1 a2 m2 c2 : Int} (x : LeastS n par tv v a1 m1 c1) (y : LeastS n par tv v a2 m2 c2) : a1 = a2 ∧ m1 = m2 ∧ c1 = c2 := by
  cases x with
  | bad h => cases y with
    | bad _ => exact ⟨rfl, rfl, rfl⟩
    | ok h0 => exact absurd h0 h
  | @ok A B a r h0 hu hA hB => cases y with
    | bad h => exact absurd h0 h
    | @ok A' B' a' r' _ hu' hA' hB' =>
      have e := hu.uniq hu'
      have e1 : A ++ a :: B = A' ++ a' :: B' := by
        have := congrArg List.dropLast e
        rw [List.dropLast_concat, List.dropLast_concat] at this
        exact this
      have : a = a' := by
        rcases List.append_eq_append_iff.1 e1 with ⟨t, h1, _⟩ | ⟨t, h1, _⟩
        · exact least_key e1 hA' hB t h1
        · exact (least_key e1.symm hA hB' t h1).symm
      subst this
      exact ⟨rfl, rfl, rfl⟩

section
variable {h : H} {bf bn n : Nat} {w : List Value} {par tv : Nat → Int}

theorem Forest.bn_ne {g : H} (P : Forest g bf bn n par tv) : ∀ b, g b = none → b ≠ bn := fun b hb => (P.ne hb).2
theorem Bl.op {h : H} {b : Nat} {o : Opn} (B : Bl h b o.vs) : hcell h ((bk b).add 0) = some (.int .i64 o.k) ∧ hcell h ((bk b).add 1) = some (.int .i64 o.v) ∧
    hcell h ((bk b).add 2) = some (.int .i64 o.w) ∧ hcell h ((bk b).add 3) = some (.int .i64 o.x) := ⟨B.ld rfl, B.ld rfl, B.ld rfl, B.ld rfl⟩

theorem tells_T (P : Forest h bf bn n par tv) (r : RF (· ≠ bn) h w n par tv) (o : Opn) :
    T Try.prog F.compasslaw07_tells [fo bf, .agg ⟨w⟩, .agg ⟨o.vs⟩] h fun r h' => r = .ret (.bool true) ∧ Kp bn h h' ∧ Forest h' bf bn n par tv := by
  refine E_compasslaw07_tells ?_
  unfold B_compasslaw07_tells
  refine new_bl ?_
  intro b1 g1 hb1 x1 B1
  refine new_bl ?_
  intro b3 g3 hb3 x3 B3
  have x13 := x1.trans' x3
  have n1 := P.bn_ne b1 hb1
  have n3 := P.bn_ne b3 (x1.new hb3)
  have B1' := B1.ext x3
  refine B1'.ldN r.one.1 ⟨_, B3.op.2.1, ?_⟩
  refine (Child_R (r.ext x13) P.fst o.v).mono ?_
  rintro _ g4 ⟨rfl, x4⟩
  have P4 := (P.ext x13).ext x4
  have B34 := B3.ext x4
  refine ⟨_, rfl, _, B34.op.2.1, ?_⟩
  refine (Parent_T P4 o.v).mono ?_
  rintro _ g5 ⟨k5, P5, rfl⟩
  have B35 := B34.kp k5 n3
  refine ⟨_, _, rfl, _, B35.op.2.1, ?_⟩
  refine (Value_T P5 o.v).mono ?_
  rintro _ g6 ⟨k6, P6, rfl⟩
  have B36 := B35.kp k6 n3
  have kk : Kp bn h g6 := ((Ext.kp (x13.trans' x4) bn).trans k5).trans k6
  refine ⟨_, _, rfl, ?_⟩
  refine ifP_of (fun hh => by simp at hh) (fun _ => ?_)
  refine ifP_of (fun hh => by simp at hh) (fun _ => ?_)
  refine ifP_of (fun h0 => ?_) (fun h0 => ?_)
  · have h0 : ¬ childC n par o.v = 0 := by simpa using h0
    rw [if_neg h0, if_neg h0]
    exact ifP_of (fun _ => ⟨rfl, kk, P6⟩) (fun hh => by simp at hh)
  · have h0 : childC n par o.v = 0 := by simpa using h0
    have hv : isN n o.v := by
      apply Classical.byContradiction
      intro hh
      unfold childC at h0
      rw [if_neg hh] at h0
      omega
    have r6 : RF (· ≠ bn) g6 w n par tv := r.kp kk
    obtain ⟨pv, vv, hwe, a, b⟩ := r6.ex
    obtain ⟨v, hve, hvn⟩ := hv.nat
    have B16 : Bl g6 b1 w := ((B1'.ext x4).kp k5 n1).kp k6 n1
    rw [if_pos h0, if_pos h0]
    refine ⟨_, B16.ld (v := pv) (by rw [hwe]; rfl), _, B36.op.2.1, ?_⟩
    rw [hve, Int.toNat_natCast]
    refine a.ix hvn fun ad hc => ⟨_, hc, ?_⟩
    refine ifP_of (fun _ => ?_) (fun hh => by simp at hh)
    refine ⟨_, B16.ld (v := vv) (by rw [hwe]; rfl), _, B36.op.2.1, ?_⟩
    rw [hve]
    refine b.ix hvn fun ad hc => ⟨_, hc, ?_⟩
    exact ⟨by simp, kk, P6⟩

/-- What one call leaves. -/
def StepR (ok : Nat → Prop) (h : H) (bf bn n : Nat) (b : Int) (r : Res) (h' : H) : Prop := ∃ w' par' tv', r = .ret (.tuple ⟨[.agg ⟨w'⟩, .bool true]⟩) ∧ Kp bn h h' ∧ Forest h' bf bn n par' tv' ∧ RF ok h' w' n par' tv' ∧ Bd n tv' (b + 1048576)


theorem SI.kp' {ok : Nat → Prop} {h h' : H} {c : Nat} {v : Value} {n : Nat} {f : Nat → Int} (s : SI ok h v n f) (k : Kp c h h') (ne : ∀ b, ok b → b ≠ c) : SI ok h' v n f := by
  rcases s with s | ⟨b, hb, s⟩
  · exact .inl s
  · exact .inr ⟨b, hb, s.kp k (ne b hb)⟩
theorem RF.kp' {ok : Nat → Prop} {h h' : H} {c : Nat} {w : List Value} {n : Nat} {par tv : Nat → Int} (r : RF ok h w n par tv) (k : Kp c h h') (ne : ∀ b, ok b → b ≠ c) : RF ok h' w n par tv := by
  obtain ⟨pv, vv, e, a, b⟩ := r.ex
  exact ⟨pv, vv, e, a.kp' k ne, b.kp' k ne⟩
theorem SI.avoid {ok : Nat → Prop} {h : H} {c : Nat} {v : Value} {n : Nat} {f : Nat → Int} (s : SI ok h v n f) (hc : h c = none) : SI (fun b => ok b ∧ b ≠ c) h v n f := by
  rcases s with s | ⟨b, hb, s⟩
  · exact .inl s
  · refine .inr ⟨b, ⟨hb, ?_⟩, s⟩
    rintro rfl
    obtain ⟨_, _, _, _, h2, _⟩ := s
    rw [hc] at h2; cases h2
theorem RF.avoid {ok : Nat → Prop} {h : H} {c : Nat} {w : List Value} {n : Nat} {par tv : Nat → Int} (r : RF ok h w n par tv) (hc : h c = none) : RF (fun b => ok b ∧ b ≠ c) h w n par tv := by
  obtain ⟨pv, vv, e, a, b⟩ := r.ex
  exact ⟨pv, vv, e, a.avoid hc, b.avoid hc⟩
theorem RF.imp {ok ok' : Nat → Prop} {h : H} {w : List Value} {n : Nat} {par tv : Nat → Int} (r : RF ok h w n par tv) (i : ∀ b, ok b → ok' b) : RF ok' h w n par tv := by
  obtain ⟨pv, vv, e, a, b⟩ := r.ex
  refine ⟨pv, vv, e, ?_, ?_⟩
  · rcases a with s | ⟨b, hb, s⟩
    · exact .inl s
    · exact .inr ⟨b, i b hb, s⟩
  · rcases b with s | ⟨b, hb, s⟩
    · exact .inl s
    · exact .inr ⟨b, i b hb, s⟩

/-- x = w', returned with an answer that is right. -/
theorem ret_x {g : H} {b5 : Nat} {x z : List Value} {ok : Bool} {R : Res → H → Prop} (B5 : Bl g b5 z) (hz : z.length = 2) (hx : x.length = 2) (one : ∀ v ∈ x, v.oneCell' = true)
    (k : ∀ g', Kp b5 g g' → R (.ret (.tuple ⟨[.agg ⟨x⟩, .bool ok]⟩)) g') : stN g (bk b5) x 2 fun h26 => ldN h26 (bk b5) 2 fun x27 => R (.ret (.tuple ⟨[.agg ⟨x27⟩, .bool ok]⟩)) h26 := by
  refine B5.stN hx hz one ?_
  intro g' kp B
  exact B.ldN hx (k g' kp)

theorem step_T {ok : Nat → Prop} (hok : ∀ b, h b = none → ok b) (hbn : ∀ b, ok b → b ≠ bn) (P : Forest h bf bn n par tv) (r : RF ok h w n par tv) (o : Opn) {b : Int} (hb : 0 ≤ b) (hb2 : b < 4611686018427387904) (Bb : Bd n tv b) :
    T Try.prog F.compasslaw07_step [fo bf, .agg ⟨w⟩, .agg ⟨o.vs⟩] h (StepR ok h bf bn n b) := by
  refine E_compasslaw07_step ?_
  unfold B_compasslaw07_step
  refine new_bl ?_
  intro b1 g1 hb1 x1 B1
  refine new_bl ?_
  intro b3 g3 hb3 x3 B3
  refine new_bl ?_
  intro b5 g5 hb5 x5 B5
  have x15 := (x1.trans' x3).trans' x5
  have n1 := P.bn_ne b1 hb1
  have n3 := P.bn_ne b3 (x1.new hb3)
  have hb5h := (x1.trans' x3).new hb5
  have n5 := P.bn_ne b5 hb5h
  have n15 : b1 ≠ b5 := (B1.ext x3).ne hb5
  have n35 : b3 ≠ b5 := B3.ne hb5
  have B1' := (B1.ext x3).ext x5
  have B3' := B3.ext x5
  have P5 := P.ext x15
  have r5 : RF (fun b => ok b ∧ b ≠ b5) g5 w n par tv := (r.avoid hb5h).ext x15
  have one := r.one
  have small := P.small
  have Bw : Bd n tv (b + 1048576) := fun w hw => by have := Bb w hw; omega
  have rng : isL o.x → ∀ w, w < n → -9223372036854775808 ≤ tv w + o.x ∧ tv w + o.x < 9223372036854775808 := by
    intro hx w hw
    have := Bb w hw
    unfold isL at hx
    omega
  have okn : ∀ c, g5 c = none → ok c ∧ c ≠ b5 := fun c hc => ⟨hok c (x15.new hc), fun e => B5.ne hc e.symm⟩
  -- the end: all kept but the nodes
  have fin : ∀ {g : H} {z x : List Value} {par' tv' : Nat → Int}, Kp bn h g → Bl g b5 z → z.length = 2 → Forest g bf bn n par' tv' → RF (fun b => ok b ∧ b ≠ b5) g x n par' tv' → Bd n tv' (b + 1048576) →
      ∀ yes : Bool, yes = true → stN g (bk b5) x 2 fun h26 => ldN h26 (bk b5) 2 fun x27 => StepR ok h bf bn n b (.ret (.tuple ⟨[.agg ⟨x27⟩, .bool yes]⟩)) h26 := by
    rintro g z x par' tv' kg Bz hz Pg rg Bg yes rfl
    refine ret_x Bz hz rg.one.1 rg.one.2 ?_
    intro g' kp
    have kk : Kp bn h g' := kg.to kp hb5h
    refine ⟨x, par', tv', rfl, kk, Pg.kp kp ?_ n5, ?_, Bg⟩
    · rintro rfl
      obtain ⟨_, _, hf⟩ := P.hd
      rw [hb5h] at hf; cases hf
    · exact (rg.kp' kp (fun b hb => hb.2)).imp (fun b hb => hb.1)
  have kb : ∀ {g g' : H} {x : List Value} {p t : Nat → Int}, RF (fun b => ok b ∧ b ≠ b5) g x n p t → Kp bn g g' → RF (fun b => ok b ∧ b ≠ b5) g' x n p t := fun r k => r.kp' k fun b hb => hbn b hb.1
  have hh5 : Kp bn h g5 := Ext.kp x15 bn
  refine ⟨_, B3'.op.1, ?_⟩
  refine ifP_of (fun _ => ?_) (fun _ => ?_)
  · -- Link
    refine B1'.ldN one.1 ⟨_, B3'.op.2.1, _, B3'.op.2.2.1, _, B3'.op.2.2.2, ?_⟩
    refine (Link_R r5 P.fst small okn o.v o.w o.x).mono ?_
    rintro _ g6 ⟨x6, c, w6, par6, tv6, rfl, S6, r6⟩
    refine ⟨_, r6.one.1, _, rfl, ?_⟩
    refine new_bl_st r6.one.1 rfl r6.one.2 ?_
    intro b16 g7 hb16 x7 B16
    have B37 := (B3'.ext x6).ext x7
    refine B16.ldN r6.one.1 ⟨_, B37.op.2.1, _, B37.op.2.2.1, _, B37.op.2.2.2, ?_⟩
    have P7 := (P5.ext x6).ext x7
    refine (Link_T P7 o.v o.w o.x).mono ?_
    rintro _ g8 ⟨k8, c8, par8, tv8, rfl, S8, P8⟩
    obtain ⟨rfl, rfl, rfl⟩ := S6.uniq S8
    have n16 := P7.bn_ne
    refine ⟨_, rfl, ?_, ?_⟩
    · exact sameAt_bl (i := 0) B16 (B16.kp k8 ((P5.ext x6).bn_ne b16 hb16))
    · exact fin ((hh5.trans (Ext.kp (x6.trans' x7) bn)).trans k8) (((B5.ext x6).ext x7).kp k8 n5) rfl P8 (kb (r6.ext x7) k8) (S8.bd (by omega) Bw) _ (by simp)
  refine ifP_of (fun _ => ?_) (fun _ => ?_)
  · -- Cut
    refine B1'.ldN one.1 ⟨_, B3'.op.2.1, ?_⟩
    refine (Cut_R r5 P.fst small okn o.v).mono ?_
    rintro _ g6 ⟨x6, w6, rfl, cy, cn⟩
    have r6 : ∃ par' tv', RF (fun b => ok b ∧ b ≠ b5) g6 w6 n par' tv' ∧ (childC n par o.v = 0 → par' = upd par o.v.toNat (-1) ∧ tv' = upd tv o.v.toNat 0) ∧ (childC n par o.v ≠ 0 → par' = par ∧ tv' = tv) ∧ Bd n tv' (b + 1048576) := by
      by_cases hc : childC n par o.v = 0
      · refine ⟨_, _, cy hc, fun _ => ⟨rfl, rfl⟩, fun h => absurd hc h, ?_⟩
        intro u hu
        have := Bw u hu
        unfold upd
        split <;> omega
      · exact ⟨_, _, cn hc, fun h => absurd h hc, fun _ => ⟨rfl, rfl⟩, Bw⟩
    obtain ⟨par6, tv6, r6, e6, e6', Bd6⟩ := r6
    refine ⟨_, r6.one.1, _, _, rfl, ?_⟩
    refine new_bl_st r6.one.1 rfl r6.one.2 ?_
    intro b16 g7 hb16 x7 B16
    have B37 := (B3'.ext x6).ext x7
    refine ⟨_, B37.op.2.1, ?_⟩
    have P7 := (P5.ext x6).ext x7
    refine (Cut_T P7 o.v).mono ?_
    rintro _ g8 ⟨k8, rfl, py, pn⟩
    have P8 : Forest g8 bf bn n par6 tv6 := by
      by_cases hc : childC n par o.v = 0
      · obtain ⟨rfl, rfl⟩ := e6 hc; exact py hc
      · obtain ⟨rfl, rfl⟩ := e6' hc; exact pn hc
    refine ⟨_, _, rfl, ?_⟩
    refine (B16.kp k8 ((P5.ext x6).bn_ne b16 hb16)).ldN r6.one.1 ?_
    refine ifP_of (fun _ => ?_) (fun hh => by simp at hh)
    exact fin ((hh5.trans (Ext.kp (x6.trans' x7) bn)).trans k8) (((B5.ext x6).ext x7).kp k8 n5) rfl P8 (kb (r6.ext x7) k8) Bd6 _ (by simp)
  refine ifP_of (fun _ => ?_) (fun _ => ?_)
  · -- Root
    refine B1'.ldN one.1 ⟨_, B3'.op.2.1, ?_⟩
    refine (Root_R r5 P.fst small o.v).mono ?_
    rintro _ g6 ⟨x6, h6⟩
    have P6 := P5.ext x6
    have h6' : ∃ a c, (∃ q, q = Res.ret (.tuple ⟨[.int .i64 a, .int .i64 c]⟩)) ∧ True := ⟨0, 0, ⟨_, rfl⟩, trivial⟩
    rcases h6 with ⟨hn, rfl⟩ | ⟨u, z, hu, hun, hrt, rfl⟩
    · refine ⟨_, _, rfl, _, (B3'.ext x6).op.2.1, ?_⟩
      refine (Root_T P6 o.v).mono ?_
      rintro _ g8 ⟨k8, P8, ⟨_, rfl⟩ | ⟨u2, z2, hu2, hun2, _, _, rfl⟩⟩
      · refine ⟨_, _, rfl, ?_⟩
        refine ((B1'.ext x6).kp k8 n1).ldN one.1 ?_
        refine ifP_of (fun _ => ?_) (fun hh => by simp at hh)
        exact fin ((hh5.trans (Ext.kp x6 bn)).trans k8) ((B5.ext x6).kp k8 n5) rfl P8 (kb (r5.ext x6) k8) Bw _ (by simp)
      · exact absurd (by rw [hu2]; exact isN_of hun2) hn
    · refine ⟨_, _, rfl, _, (B3'.ext x6).op.2.1, ?_⟩
      refine (Root_T P6 o.v).mono ?_
      rintro _ g8 ⟨k8, P8, ⟨hn, _⟩ | ⟨u2, z2, hu2, hun2, hrt2, _, rfl⟩⟩
      · exact absurd (by rw [hu]; exact isN_of hun) hn
      · have : u2 = u := by omega
        subst this
        have := hrt.uniq hrt2
        subst this
        refine ⟨_, _, rfl, ?_⟩
        refine ((B1'.ext x6).kp k8 n1).ldN one.1 ?_
        refine ifP_of (fun _ => ?_) (fun hh => by simp at hh)
        exact fin ((hh5.trans (Ext.kp x6 bn)).trans k8) ((B5.ext x6).kp k8 n5) rfl P8 (kb (r5.ext x6) k8) Bw _ (by simp)
  refine ifP_of (fun _ => ?_) (fun _ => ?_)
  · -- Least
    refine B1'.ldN one.1 ⟨_, B3'.op.2.1, ?_⟩
    refine (Least_R r5 P.fst small o.v).mono ?_
    rintro _ g6 ⟨x6, a, m, c, rfl, L6⟩
    refine ⟨_, _, _, rfl, _, (B3'.ext x6).op.2.1, ?_⟩
    refine (Least_T (P5.ext x6) o.v).mono ?_
    rintro _ g8 ⟨k8, P8, a2, m2, c2, rfl, L8⟩
    obtain ⟨rfl, rfl, rfl⟩ := L6.uniq L8
    refine ⟨_, _, _, rfl, ?_⟩
    refine ((B1'.ext x6).kp k8 n1).ldN one.1 ?_
    refine ifP_of (fun _ => ifP_of (fun _ => ?_) (fun hh => by simp at hh)) (fun hh => by simp at hh)
    exact fin ((hh5.trans (Ext.kp x6 bn)).trans k8) ((B5.ext x6).kp k8 n5) rfl P8 (kb (r5.ext x6) k8) Bw _ (by simp)
  refine ifP_of (fun _ => ?_) (fun _ => ?_)
  · -- Add
    refine B1'.ldN one.1 ⟨_, B3'.op.2.1, _, B3'.op.2.2.2, ?_⟩
    refine (Add_R r5 P.fst small okn o.v o.x rng).mono ?_
    rintro _ g6 ⟨x6, c, w6, tv6, rfl, S6, r6⟩
    refine ⟨_, r6.one.1, _, rfl, ?_⟩
    refine new_bl_st r6.one.1 rfl r6.one.2 ?_
    intro b16 g7 hb16 x7 B16
    have B37 := (B3'.ext x6).ext x7
    refine B16.ldN r6.one.1 ⟨_, B37.op.2.1, _, B37.op.2.2.2, ?_⟩
    have P7 := (P5.ext x6).ext x7
    refine (Add_T P7 o.v o.x rng).mono ?_
    rintro _ g8 ⟨k8, c8, tv8, rfl, S8, P8⟩
    obtain ⟨rfl, rfl⟩ := S6.uniq S8
    refine ⟨_, rfl, ?_, ?_⟩
    · exact sameAt_bl (i := 0) B16 (B16.kp k8 ((P5.ext x6).bn_ne b16 hb16))
    · exact fin ((hh5.trans (Ext.kp (x6.trans' x7) bn)).trans k8) (((B5.ext x6).ext x7).kp k8 n5) rfl P8 (kb (r6.ext x7) k8) (S8.bd Bb) _ (by simp)
  · refine B1'.ldN one.1 (B1'.ldN one.1 (B3'.ldN rfl ?_))
    refine (tells_T P5 ((r.ext x15).imp hbn) o).mono ?_
    rintro _ g8 ⟨rfl, k8, P8⟩
    refine ⟨_, rfl, ?_, ?_⟩
    · exact sameAt_bl (i := 0) B1' (B1'.kp k8 n1)
    · exact fin (hh5.trans k8) (B5.kp k8 n5) rfl P8 (kb r5 k8) Bw _ rfl

end
end Go.Proofs.Ytgbmkfifjijoiaa
