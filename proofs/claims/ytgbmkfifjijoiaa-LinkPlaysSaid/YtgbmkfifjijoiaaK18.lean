import Derived.Test.YtgbmkfifjijoiaaK17
/-! grown: a forest of links. -/
namespace Go.Proofs.Ytgbmkfifjijoiaa
open Go
set_option linter.unusedVariables false

structure Opn where
  k : Int
  v : Int
  w : Int
  x : Int
abbrev Opn.vs (o : Opn) : List Value := [.int .i64 o.k, .int .i64 o.v, .int .i64 o.w, .int .i64 o.x]

/-- s is a slice of l calls. -/
def Scr (h : H) (s : Value) (l : Nat) (ops : Nat → Opn) : Prop :=
  ∃ a c, s = .slice a l c ∧ ∀ i, i < l → ∃ ad, a = some ad ∧ hcells h (ad.add (i * 4)) (ops i).vs
theorem Scr.ext {h h' : H} {s : Value} {l : Nat} {ops : Nat → Opn} (S : Scr h s l ops) (x : Ext h h') : Scr h' s l ops := by
  obtain ⟨a, c, e, k⟩ := S
  refine ⟨a, c, e, fun i hi => ?_⟩
  obtain ⟨ad, e2, hc⟩ := k i hi
  exact ⟨ad, e2, fun j v hj => x.cell (hc j v hj)⟩

/-- The forest after the first calls, each taken as Link. -/
inductive Grown (n : Nat) (ops : Nat → Opn) : Nat → (Nat → Int) → (Nat → Int) → Prop
  | zero : Grown n ops 0 (fun _ => -1) (fun _ => 0)
  | succ {i : Nat} {par tv par' tv' : Nat → Int} {c : Int} : Grown n ops i par tv → LinkS n par tv (ops i).v (ops i).w (ops i).x c par' tv' → Grown n ops (i + 1) par' tv'

theorem LinkS.uniq {n : Nat} {par tv par1 tv1 par2 tv2 : Nat → Int} {v w x c1 c2 : Int} (a : LinkS n par tv v w x c1 par1 tv1) (b : LinkS n par tv v w x c2 par2 tv2) :
    c1 = c2 ∧ par1 = par2 ∧ tv1 = tv2 := by
  cases a with
  | node h => cases b with
    | node => exact ⟨rfl, rfl, rfl⟩
    | label h1 h2 => exact absurd ⟨h1, h2⟩ h
    | root h1 h2 => exact absurd ⟨h1, h2⟩ h
    | cycle h1 h2 => exact absurd ⟨h1, h2⟩ h
    | ok h1 h2 => exact absurd ⟨h1, h2⟩ h
  | label g1 g2 g3 => cases b with
    | node h => exact absurd ⟨g1, g2⟩ h
    | label => exact ⟨rfl, rfl, rfl⟩
    | root _ _ h3 => exact absurd h3 g3
    | cycle _ _ h3 => exact absurd h3 g3
    | ok _ _ h3 => exact absurd h3 g3
  | root g1 g2 g3 g4 => cases b with
    | node h => exact absurd ⟨g1, g2⟩ h
    | label _ _ h3 => exact absurd g3 h3
    | root => exact ⟨rfl, rfl, rfl⟩
    | cycle _ _ _ h4 => exact absurd h4 g4
    | ok _ _ _ h4 => exact absurd h4 g4
  | cycle g1 g2 g3 g4 g5 => cases b with
    | node h => exact absurd ⟨g1, g2⟩ h
    | label _ _ h3 => exact absurd g3 h3
    | root _ _ _ h4 => exact absurd g4 h4
    | cycle => exact ⟨rfl, rfl, rfl⟩
    | ok _ _ _ _ h5 => exact absurd g5 h5
  | ok g1 g2 g3 g4 g5 => cases b with
    | node h => exact absurd ⟨g1, g2⟩ h
    | label _ _ h3 => exact absurd g3 h3
    | root _ _ _ h4 => exact absurd g4 h4
    | cycle _ _ _ _ h5 => exact absurd h5 g5
    | ok => exact ⟨rfl, rfl, rfl⟩
theorem Grown.uniq {n : Nat} {ops : Nat → Opn} {i : Nat} {par1 tv1 par2 tv2 : Nat → Int} (a : Grown n ops i par1 tv1) (b : Grown n ops i par2 tv2) : par1 = par2 ∧ tv1 = tv2 := by
  induction a generalizing par2 tv2 with
  | zero => cases b; exact ⟨rfl, rfl⟩
  | succ _ s ih =>
    cases b with
    | succ b' s' =>
      obtain ⟨rfl, rfl⟩ := ih b'
      exact (s.uniq s').2
theorem LinkS.bd {n : Nat} {par tv par' tv' : Nat → Int} {v w x c b : Int} (s : LinkS n par tv v w x c par' tv') (hb : 1048576 ≤ b) (h : Bd n tv b) : Bd n tv' b := by
  cases s with
  | ok _ _ hx =>
    intro u hu
    unfold upd
    split
    · unfold isL at hx; omega
    · exact h u hu
  | _ => exact h

theorem rt_ret {A X : Value → H → Prop} {v : Value} {h : H} (k : A v h) : rt A X (.ret v) h := k
theorem UpW.pair {n : Nat} {par : Nat → Int} {d : Nat → Nat} (hd : ∀ v u : Nat, v < n → par v = u → d u < d v) {v : Nat} {l : List Nat} (a : UpW par v l) :
    (∀ x ∈ l, x < n) → l.Pairwise (fun a b => d b < d a) ∧ ∀ x ∈ l, d x ≤ d v := by
  induction a with
  | root h => intro hl; exact ⟨List.pairwise_singleton .., fun x hx => by rw [List.mem_singleton.1 hx]; exact Nat.le_refl _⟩
  | @step v u l h a ih =>
    intro hl
    obtain ⟨h1, h2⟩ := ih (fun x hx => hl x (List.mem_cons_of_mem _ hx))
    have := hd v u (hl v (by simp)) h
    refine ⟨List.Pairwise.cons (fun x hx => ?_) h1, fun x hx => ?_⟩
    · have := h2 x hx; omega
    · rcases List.mem_cons.1 hx with rfl | hx
      · exact Nat.le_refl _
      · have := h2 x hx; omega
theorem UpW.lt {n : Nat} {par tv : Nat → Int} (F : Fst n par tv) {v : Nat} {l : List Nat} (hv : v < n) (a : UpW par v l) : ∀ x ∈ l, x < n := by
  obtain ⟨l', h1, h2⟩ := UpW.exists F v hv
  rw [a.uniq h1]; exact h2
theorem UpW.nodup {n : Nat} {par tv : Nat → Int} (F : Fst n par tv) {v : Nat} {l : List Nat} (hv : v < n) (a : UpW par v l) : l.Nodup := by
  obtain ⟨d, hd⟩ := F.acy
  refine (a.pair hd (a.lt F hv)).1.imp ?_
  intro a b h e
  subst e
  omega
theorem UpW.len {n : Nat} {par tv : Nat → Int} (F : Fst n par tv) {v : Nat} {l : List Nat} (hv : v < n) (a : UpW par v l) : l.length ≤ n :=
  short (a.nodup F hv) (a.lt F hv)
theorem i64_inc {i : Nat} (h : i < 9223372036854775807) : IntKind.i64.wrap ((i : Int) + 1) = ((i + 1 : Nat) : Int) := by
  have : IntKind.i64.wrap ((i : Int) + 1) = (i : Int) + 1 := w64_in (by omega) (by omega)
  rw [this]; omega
/-- The least value so far. -/
def lowOf (tv : Nat → Int) : List Nat → Int
  | [] => 4611686018427387904
  | a :: l => min (tv a) (lowOf tv l)
theorem lowOf_snoc (tv : Nat → Int) (l : List Nat) (u : Nat) : lowOf tv (l ++ [u]) = if tv u < lowOf tv l then tv u else lowOf tv l := by
  induction l with
  | nil =>
    by_cases h : tv u < lowOf tv []
    · rw [if_pos h]
      have h' : tv u < 4611686018427387904 := h
      show min (tv u) 4611686018427387904 = tv u
      omega
    · rw [if_neg h]
      have h' : ¬ tv u < 4611686018427387904 := h
      show min (tv u) 4611686018427387904 = 4611686018427387904
      omega
  | cons a l ih =>
    by_cases h : tv u < lowOf tv (a :: l)
    · rw [if_pos h]
      have h' : tv u < min (tv a) (lowOf tv l) := h
      show min (tv a) (lowOf tv (l ++ [u])) = tv u
      rw [ih, if_pos (by omega)]
      omega
    · rw [if_neg h]
      have h' : ¬ tv u < min (tv a) (lowOf tv l) := h
      show min (tv a) (lowOf tv (l ++ [u])) = min (tv a) (lowOf tv l)
      rw [ih]
      by_cases h2 : tv u < lowOf tv l
      · rw [if_pos h2]; omega
      · rw [if_neg h2]
theorem lowOf_eq {tv : Nat → Int} {m : Int} : ∀ {l : List Nat}, (∀ x ∈ l, m ≤ tv x) → m ≤ 4611686018427387904 → m ≤ lowOf tv l := by
  intro l
  induction l with
  | nil => intro _ h; exact h
  | cons a l ih =>
    intro h hm
    have := ih (fun x hx => h x (List.mem_cons_of_mem _ hx)) hm
    have := h a (by simp)
    simp only [lowOf]; omega
theorem lowOf_le {tv : Nat → Int} {a : Nat} : ∀ {l : List Nat}, a ∈ l → lowOf tv l ≤ tv a := by
  intro l
  induction l with
  | nil => intro h; cases h
  | cons b l ih =>
    intro h
    simp only [lowOf]
    rcases List.mem_cons.1 h with rfl | h
    · omega
    · have := ih h; omega

theorem op_one (o : Opn) : ∀ v ∈ o.vs, v.oneCell' = true := by
  intro v hv
  simp only [List.mem_cons, List.mem_nil_iff, or_false] at hv
  rcases hv with rfl | rfl | rfl | rfl <;> rfl

theorem grown_T {h : H} {s : Value} {l : Nat} {ops : Nat → Opn} (S : Scr h s l ops) (hl : l < 9223372036854775807) :
    T Try.prog F.compasslaw07_grown [.int .i64 12, s] h fun r h' => Ext h h' ∧ ∃ bf bn par tv, r = .ret (fo bf) ∧ h bf = none ∧ h bn = none ∧
      Forest h' bf bn 12 par tv ∧ Grown 12 ops l par tv ∧ Bd 12 tv 1048576 := by
  refine E_compasslaw07_grown ?_
  unfold B_compasslaw07_grown
  refine (New_T h 12).mono ?_
  rintro _ h1 ⟨x1, ⟨hbad, _⟩ | ⟨_, _, bf, bn, rfl, hbf, hbn, P1⟩⟩
  · omega
  refine ⟨_, _, rfl, ptrO_mk ?_⟩
  refine ifP_of (fun hh => by cases hh) (fun _ => ?_)
  obtain ⟨a, c, rfl, hS⟩ := S
  show ∃ I9 : (Int × Unit) → H → Prop, _
  let I9 : (Int × Unit) → H → Nat → Prop := fun s g k => ∃ (i : Nat) (par tv : Nat → Int), s.1 = i ∧ i ≤ l ∧ k = l - i ∧ Ext h g ∧ Forest g bf bn 12 par tv ∧ Grown 12 ops i par tv ∧ Bd 12 tv 1048576
  refine ⟨fun s g => ∃ k, I9 s g k, rk I9, rk_wf I9, ⟨_, 0, _, _, rfl, Nat.zero_le _, rfl, x1, P1, .zero, fun w hw => by show -1048576 ≤ (0 : Int) ∧ (0 : Int) ≤ 1048576; omega⟩, ?_⟩
  intro s g hI
  obtain ⟨i, par, tv, hi, hil, hk, xg, P, G, B⟩ := mu_spec hI
  generalize hkk : mu I9 ((s, ()), g) = k at *
  change s = (i : Int) at hi
  subst hi
  refine ifP_of (fun h0 => ?_) (fun h0 => ?_)
  · have h0 := of_decide_eq_true h0
    have hil : i < l := by omega
    obtain ⟨ad, rfl, hc⟩ := hS i hil
    refine ⟨by omega, by omega, ?_⟩
    rw [Int.toNat_natCast]
    refine ⟨(ops i).vs, rfl, fun j v hj => xg.cell (hc j v hj), ?_⟩
    refine new_st rfl rfl (op_one _) ?_
    intro b g2 hb kp2 e2 ld2
    have x2 : Ext g g2 := fun j o e => kp2 (j + 1) j o (by omega) e
    refine ⟨_, ld2 1 _ rfl, _, ld2 2 _ rfl, _, ld2 3 _ rfl, ?_⟩
    refine (Link_T (P.ext x2) _ _ _).mono ?_
    rintro _ g3 ⟨kp3, c, par3, tv3, rfl, S3, P3⟩
    refine ⟨_, rfl, ?_⟩
    rw [i64_inc (by omega)]
    exact mu_next (I := I9) (k := l - (i + 1)) ⟨i + 1, par3, tv3, rfl, hil, rfl, (xg.trans' x2).of_kp kp3 hbn, P3, .succ G S3, S3.bd (by omega) B⟩ (by rw [hkk, hk]; omega)
  · have h0 := of_decide_eq_false h0
    have : i = l := by omega
    subst this
    exact ⟨xg, bf, bn, par, tv, rfl, hbf, hbn, P, G, B⟩

/-- The way up from v, step by step. -/
theorem LinkWays_T {h : H} {s : Value} {l : Nat} {ops : Nat → Opn} (S : Scr h s l ops) (hl : l < 9223372036854775807) (v : Int) :
    T Try.prog F.compasslaw07_LinkWays [s, .int .i64 v] h fun r h' => r = .ret (.bool true) ∧ Ext h h' := by
  refine E_compasslaw07_LinkWays ?_
  unfold B_compasslaw07_LinkWays
  refine (grown_T S hl).mono ?_
  rintro _ h1 ⟨x1, bf, bn, par, tv, rfl, hbf, hbn, P1, G, Bb⟩
  refine rt_ret (ptrO_mk ?_)
  refine ifP_of (fun hh => by cases hh) (fun _ => ?_)
  refine (awake_T h1).mono ?_
  rintro _ h2 ⟨rfl, x2⟩
  refine ⟨_, rfl, ifP_of (fun hh => by cases hh) (fun _ => ?_)⟩
  have P2 := P1.ext x2
  have x12 := x1.trans' x2
  refine (Root_T P2 v).mono ?_
  rintro _ h3 ⟨kp3, P3, ⟨hn, rfl⟩ | ⟨w, x, rfl, hw, hrt, hxn, rfl⟩⟩
  · refine ⟨_, _, rfl, ifP_of (fun _ => ?_) (fun hh => by simp at hh)⟩
    refine (Least_T P3 v).mono ?_
    rintro _ h4 ⟨kp4, P4, a, m, c, rfl, L4⟩
    refine ⟨_, _, _, rfl, ?_⟩
    have e30 : childC 12 par v = 30 := if_neg hn
    cases L4 with
    | bad _ =>
      refine ifP_of (fun _ => ifP_of (fun _ => ?_) (fun hh => ?_)) (fun hh => by simp at hh)
      · exact ⟨rfl, (x12.of_kp (kp3.trans kp4) hbn)⟩
      · rw [e30] at hh; simp at hh
    | ok h0 => rw [e30] at h0; omega
  · refine ⟨_, _, rfl, ifP_of (fun hh => by simp at hh) (fun _ => ?_)⟩
    refine (Least_T P3 _).mono ?_
    rintro _ h4 ⟨kp4, P4, a, m, c, rfl, L4⟩
    refine ⟨_, _, _, rfl, ?_⟩
    have x4 := x12.of_kp (kp3.trans kp4) hbn
    refine ifP_of (fun hxv => ?_) (fun hxv => ?_)
    · have hxv : x = w := by have := of_decide_eq_true hxv; omega
      subst hxv
      have e70 : childC 12 par x = 70 := by rw [childC_nat hw, if_pos hrt.root]
      cases L4 with
      | bad _ => rw [e70]; exact ⟨rfl, x4⟩
      | ok h0 => rw [e70] at h0; omega
    · have hxv : x ≠ w := by have := of_decide_eq_false hxv; omega
      have hpw : par w ≠ -1 := fun hp => hxv (hrt.uniq (Rt.self hp))
      have e0 : childC 12 par w = 0 := by rw [childC_nat hw, if_neg hpw]
      cases L4 with
      | bad h => exact absurd e0 h
      | @ok A B a r h0 hu hA hB =>
        rw [Int.toNat_natCast] at hu
        have hr : r = x := Rt.uniq ⟨_, hu, by rw [List.getLast?_append]; rfl⟩ hrt
        subst hr
        have hlen := hu.len P4.fst hw
        have hlt := hu.lt P4.fst hw
        generalize hF : A ++ a :: B ++ [r] = Fl at hu hlen hlt
        have han : a < 12 := hlt a (by rw [← hF]; simp)
        let I23 : (Int × Int × Bool × Int × Unit) → H → Nat → Prop := fun s g k => ∃ (done rest : List Nat) (u : Nat), Fl = done ++ rest ∧ UpW par u rest ∧ u < 12 ∧
          s.1 = u ∧ s.2.1 = done.length ∧ s.2.2.1 = decide (a ∈ done) ∧ s.2.2.2.1 = lowOf tv done ∧ k = rest.length ∧ Ext h g ∧ Forest g bf bn 12 par tv
        refine ⟨fun s g => ∃ k, I23 s g k, rk I23, rk_wf I23, ⟨_, [], Fl, w, rfl, hu, hw, rfl, rfl, rfl, rfl, rfl, x4, P4⟩, ?_⟩
        intro u' st' fd' lw' g hI
        obtain ⟨done, rest, u, hsplit, hur, hun, e1, e2, e3, e4, hk, xg, P⟩ := mu_spec hI
        generalize hkk : mu I23 ((u', st', fd', lw', ()), g) = k at *
        change u' = (u : Int) at e1
        change st' = (done.length : Int) at e2
        change fd' = decide (a ∈ done) at e3
        change lw' = lowOf tv done at e4
        subst e1 e2 e3 e4
        refine ifP_of (fun hne => ?_) (fun hne => ?_)
        · have hne : (u : Int) ≠ r := by simpa using hne
          have hpu : par u ≠ -1 := fun hp => by
            have h1 := hur.uniq (.root hp)
            rw [h1] at hsplit
            have h2 := congrArg List.getLast? hsplit
            rw [← hF, List.getLast?_append, List.getLast?_append] at h2
            simp at h2
            omega
          have eu : childC 12 par u = 0 := by rw [childC_nat hun, if_neg hpu]
          refine (Value_T P _).mono ?_
          rintro _ g1 ⟨k1, P1', rfl⟩
          rw [eu, if_pos rfl, Int.toNat_natCast]
          refine ⟨_, _, rfl, ?_⟩
          refine (Parent_T P1' _).mono ?_
          rintro _ g2 ⟨k2, P2', rfl⟩
          rw [eu, if_pos rfl, Int.toNat_natCast]
          refine ⟨_, _, rfl, ?_⟩
          cases hur with
          | root hp => exact absurd hp hpu
          | @step _ p rest hp hur' =>
            have hpn : p < 12 := by
              rcases P.fst.pt u hun with h | ⟨q, hq, hqn⟩
              · exact absurd h hpu
              · have : p = q := by omega
                subst this; exact hqn
            have hdl : done.length + (rest.length + 1) ≤ 12 := by
              rw [hsplit] at hlen
              simpa using hlen
            refine ⟨fun _ g => g2 = g, ?_, ?_⟩
            · refine ifP_of (fun hh => by simp at hh) (fun _ => ?_)
              refine ifP_of (fun hh => by simp at hh) (fun _ => ?_)
              refine ifP_of (fun hh => ?_) (fun _ => rfl)
              have := of_decide_eq_true hh
              omega
            · rintro _ rfl
              refine ⟨fun b g => g2 = g ∧ b.1 = decide (a ∈ done ++ [u]), ?_, ?_⟩
              · refine ifP_of (fun hh => ⟨rfl, ?_⟩) (fun hh => ?_)
                · have := of_decide_eq_true hh
                  simp [this]
                · have hnd := of_decide_eq_false hh
                  refine ifP_of (fun h2 => ⟨rfl, ?_⟩) (fun h2 => ⟨rfl, ?_⟩)
                  · have h2 : u = a := by have := of_decide_eq_true h2; omega
                    subst h2
                    simp
                  · have h2 : a ≠ u := by have := of_decide_eq_false h2; omega
                    simp [hnd, h2]
              · rintro fd _ ⟨rfl, hfd⟩
                rw [hp, i64_inc (by omega), ← lowOf_snoc]
                refine mu_next (I := I23) (k := rest.length) ⟨done ++ [u], rest, p, by rw [hsplit]; simp, hur', hpn, rfl, by simp, hfd, rfl, rfl, xg.of_kp (k1.trans k2) hbn, P2'⟩ (by rw [hkk, hk]; simp)
        · have hur2 : u = r := by
            have : (u : Int) = r := by simpa using hne
            omega
          subst hur2
          have h1 := hur.uniq (.root hrt.root)
          rw [h1, ← hF] at hsplit
          have hdone : done = A ++ a :: B := by
            have := List.append_cancel_right hsplit
            exact this.symm
          refine (Parent_T P _).mono ?_
          rintro _ g1 ⟨k1, P1', rfl⟩
          refine ⟨_, _, rfl, ?_⟩
          have e70 : childC 12 par u = 70 := by rw [childC_nat hun, if_pos hrt.root]
          have hfound : decide (a ∈ done) = true := by rw [hdone]; simp
          have ba := Bb a han
          have e1 : lowOf tv done = tv a := by
            refine Int.le_antisymm (lowOf_le (by rw [hdone]; simp)) (lowOf_eq (fun y hy => ?_) (by omega))
            rw [hdone] at hy
            simp only [List.mem_append, List.mem_cons] at hy
            rcases hy with h | rfl | h
            · exact hA y h
            · exact Int.le_refl _
            · exact Int.le_of_lt (hB y h)
          refine ifP_of (fun _ => ?_) (fun hh => by simp at hh)
          rw [hfound, e1, e70]
          refine ifP_of (fun _ => ?_) (fun hh => by cases hh)
          refine ifP_of (fun _ => ⟨rfl, xg.of_kp k1 hbn⟩) (fun hh => by simp at hh)

end Go.Proofs.Ytgbmkfifjijoiaa
