import Derived.Test.YtgbmkfifjijoiaaK14
/-! The forest's exported functions: Link, Add, Least, New. -/
namespace Go.Proofs.Ytgbmkfifjijoiaa
open Go
set_option linter.unusedVariables false

/-- What Link answers, and the forest then. -/
inductive LinkS (n : Nat) (par tv : Nat → Int) (v w x : Int) : Int → (Nat → Int) → (Nat → Int) → Prop
  | node : ¬ (isN n v ∧ isN n w) → LinkS n par tv v w x 30 par tv
  | label : isN n v → isN n w → ¬ isL x → LinkS n par tv v w x 31 par tv
  | root : isN n v → isN n w → isL x → par v.toNat ≠ -1 → LinkS n par tv v w x 70 par tv
  | cycle : isN n v → isN n w → isL x → par v.toNat = -1 → Rt par w.toNat v.toNat → LinkS n par tv v w x 71 par tv
  | ok : isN n v → isN n w → isL x → par v.toNat = -1 → ¬ Rt par w.toNat v.toNat → LinkS n par tv v w x 0 (upd par v.toNat w) (upd tv v.toNat x)

/-- The nodes of a way that have an edge above. -/
def edges (par : Nat → Int) (l : List Nat) : List Nat := l.filter fun w => decide (par w ≠ -1)

/-- What Add answers, and the values then. -/
inductive AddS (n : Nat) (par tv : Nat → Int) (v x : Int) : Int → (Nat → Int) → Prop
  | node : ¬ isN n v → AddS n par tv v x 30 tv
  | label : isN n v → ¬ isL x → AddS n par tv v x 31 tv
  | ok {l : List Nat} : isN n v → isL x → UpW par v.toNat l → AddS n par tv v x 0 (addT tv (edges par l) x)

/-- What Least answers. -/
inductive LeastS (n : Nat) (par tv : Nat → Int) (v : Int) : Int → Int → Int → Prop
  | bad : childC n par v ≠ 0 → LeastS n par tv v 0 0 (childC n par v)
  | ok {A B : List Nat} {a r : Nat} : childC n par v = 0 → UpW par v.toNat (A ++ a :: B ++ [r]) → (∀ w ∈ A, tv a ≤ tv w) → (∀ w ∈ B, tv a < tv w) → LeastS n par tv v a (tv a) 0

section
variable {bf bn n : Nat} {h : H} {par tv : Nat → Int}

theorem Link_T (P : Forest h bf bn n par tv) (v w x : Int) :
    T Try.prog F.links_Forest_Link [fo bf, .int .i64 v, .int .i64 w, .int .i64 x] h fun r h' => Kp bn h h' ∧ ∃ c par' tv', r = .ret (.int .i64 c) ∧ LinkS n par tv v w x c par' tv' ∧ Forest h' bf bn n par' tv' := by
  refine E_links_Forest_Link ?_
  unfold B_links_Forest_Link
  refine (node_T P.hd v).mono ?_
  rintro _ _ ⟨rfl, rfl⟩
  refine ⟨_, rfl, ifP_of (fun hv => ?_) (fun hv => ?_)⟩
  · exact ⟨Kp.refl, _, _, _, rfl, .node (fun h => isN_false hv h.1), P⟩
  have hv := isN_true hv
  refine (node_T P.hd w).mono ?_
  rintro _ _ ⟨rfl, rfl⟩
  refine ⟨_, rfl, ifP_of (fun hw => ?_) (fun hw => ?_)⟩
  · exact ⟨Kp.refl, _, _, _, rfl, .node (fun h => isN_false hw h.2), P⟩
  have hw := isN_true hw
  refine (label_T x).mono ?_
  rintro _ _ ⟨rfl, rfl⟩
  refine ⟨_, rfl, ifP_of (fun hx => ?_) (fun hx => ?_)⟩
  · exact ⟨Kp.refl, _, _, _, rfl, .label hv hw (isL_false hx), P⟩
  have hx := isL_true hx
  obtain ⟨e, st, L, pd, f, I⟩ := P.ex
  obtain ⟨v, rfl, hvn⟩ := hv.nat
  obtain ⟨w, rfl, hwn⟩ := hw.nat
  refine (root_T f I P.fst P.small hvn).mono ?_
  rintro _ h1 ⟨r, rfl, st1, L1, pd1, f1, kp1, R1⟩
  refine ⟨_, rfl, ifP_of (fun hr => ?_) (fun hr => ?_)⟩
  · have hr : (r : Int) ≠ v := by simpa using hr
    refine ⟨kp1, _, _, _, rfl, .root hv hw hx ?_, ⟨P.small, P.fst, _, _, _, _, f1, R1.inv⟩⟩
    rw [Int.toNat_natCast]
    exact fun hp => hr (by rw [R1.rt.uniq (Rt.self hp)])
  have hr : (r : Int) = v := by simpa using hr
  have hr : r = v := by omega
  subst hr
  refine (root_T f1 R1.inv P.fst P.small hwn).mono ?_
  rintro _ h2 ⟨r2, rfl, st2, L2, pd2, f2, kp2, R2⟩
  refine ⟨_, rfl, ifP_of (fun hr2 => ?_) (fun hr2 => ?_)⟩
  · have hr2 : (r2 : Int) = r := by simpa using hr2
    have hr2 : r2 = r := by omega
    subst hr2
    refine ⟨kp1.trans kp2, _, _, _, rfl, .cycle hv hw hx ?_ ?_, ⟨P.small, P.fst, _, _, _, _, f2, R2.inv⟩⟩
    · rw [Int.toNat_natCast]; exact R1.root
    · rw [Int.toNat_natCast, Int.toNat_natCast]; exact R2.rt
  have hr2 : (r2 : Int) ≠ r := by simpa using hr2
  have nrt : ¬ Rt par w r := fun hh => hr2 (by rw [R2.rt.uniq hh])
  refine (access_T f2 R2.inv P.fst P.small hvn).mono ?_
  rintro _ h3 ⟨rfl, st3, L3, pd3, f3, kp3, A⟩
  refine ⟨rfl, nd f3.hd hvn ⟨f3.wr hvn (by decide), ?_⟩⟩
  rw [f3.set hvn (by decide)]
  have f4 := f3.next (st' := upd2 st3 r 3 x)
  have q : ∀ k, k < 3 → upd2 st3 r 3 x r k = st3 r k := fun k hk => if_neg (by omega)
  refine (pull_A f4 hvn (by rw [q _ (by decide)]; exact pc_of A.inv hvn (by decide)) (by rw [q _ (by decide)]; exact pc_of A.inv hvn (by decide))).mono ?_
  rintro _ _ ⟨rfl, rfl⟩
  rw [fp_fp]
  refine ⟨rfl, ?_⟩
  have f5 := f3.next (st' := pullS (upd2 st3 r 3 x) r)
  refine nd f5.hd hvn ⟨f5.wr hvn (by decide), ?_⟩
  rw [f5.set hvn (by decide), fp_fp]
  have xr : -9223372036854775808 ≤ x ∧ x < 9223372036854775808 := by unfold isL at hx; omega
  have er : ((r : Nat) : Int).toNat = r := Int.toNat_natCast r
  have I' := A.link P.fst hvn hwn R1.root xr
  have F' := P.fst.link hvn hwn R1.root nrt xr
  refine ⟨((kp1.trans kp2).trans kp3).trans Kp.fp, _, _, _, rfl, .ok hv hw hx ?_ ?_, ⟨P.small, ?_, e, _, L3, pd3, f3.next, ?_⟩⟩
  · rw [er]; exact R1.root
  · rw [er, Int.toNat_natCast]; exact nrt
  · rw [er]; exact F'
  · rw [er]; exact I'

theorem RootR.edges {st : St} {L : Nat → List Nat} {pd : Nat → Int} {r v : Nat} {x : Int} (A : RootR n st L par tv pd r v) (w : Nat) :
    w ∈ LL L (st r 1) ↔ w ∈ edges par (L r).reverse := by
  have tl := A.tail
  have ch := A.inv.chn r A.rn
  rw [tl] at ch
  rw [tl]
  unfold Go.Proofs.Ytgbmkfifjijoiaa.edges
  simp only [List.mem_filter, List.mem_reverse, List.mem_cons, decide_eq_true_eq]
  constructor
  · intro h
    obtain ⟨u, hu⟩ := ch.par_of w h
    exact ⟨.inr h, by omega⟩
  · rintro ⟨rfl | h, h2⟩
    · exact absurd A.root h2
    · exact h

theorem Add_T (P : Forest h bf bn n par tv) (v x : Int) (hr : isL x → ∀ w, w < n → -9223372036854775808 ≤ tv w + x ∧ tv w + x < 9223372036854775808) :
    T Try.prog F.links_Forest_Add [fo bf, .int .i64 v, .int .i64 x] h fun r h' => Kp bn h h' ∧ ∃ c tv', r = .ret (.int .i64 c) ∧ AddS n par tv v x c tv' ∧ Forest h' bf bn n par tv' := by
  refine E_links_Forest_Add ?_
  unfold B_links_Forest_Add
  refine (node_T P.hd v).mono ?_
  rintro _ _ ⟨rfl, rfl⟩
  refine ⟨_, rfl, ifP_of (fun hv => ?_) (fun hv => ?_)⟩
  · exact ⟨Kp.refl, _, _, rfl, .node (isN_false hv), P⟩
  have hv := isN_true hv
  refine (label_T x).mono ?_
  rintro _ _ ⟨rfl, rfl⟩
  refine ⟨_, rfl, ifP_of (fun hx => ?_) (fun hx => ?_)⟩
  · exact ⟨Kp.refl, _, _, rfl, .label hv (isL_false hx), P⟩
  have hx := isL_true hx
  obtain ⟨e, st, L, pd, f, I⟩ := P.ex
  obtain ⟨v, rfl, hvn⟩ := hv.nat
  refine (root_T f I P.fst P.small hvn).mono ?_
  rintro _ h1 ⟨r, rfl, st1, L1, pd1, f1, kp1, R⟩
  have hrn := R.rn
  refine ⟨_, rfl, nd f1.hd hrn ⟨_, f1.ld hrn (by decide), ?_⟩⟩
  refine (raise_A f1 (pt_of R.inv hrn (by decide)) x).mono ?_
  rintro _ _ ⟨rfl, rfl⟩
  refine ⟨rfl, ?_⟩
  have f2 := f1.next (st' := raiseS st1 (st1 r 1) x)
  refine (pull_A f2 hrn (by rw [raiseS_link (by decide)]; exact pc_of R.inv hrn (by decide)) (by rw [raiseS_link (by decide)]; exact pc_of R.inv hrn (by decide))).mono ?_
  rintro _ _ ⟨rfl, rfl⟩
  rw [fp_fp]
  obtain ⟨pd', I'⟩ := R.add P.fst (hr hx)
  have et : addT tv (LL L1 (st1 r 1)) x = addT tv (edges par (L1 r).reverse) x := by
    funext w
    unfold addT
    by_cases hm : w ∈ LL L1 (st1 r 1)
    · rw [if_pos hm, if_pos ((R.edges (x := x) w).1 hm)]
    · rw [if_neg hm, if_neg (fun h => hm ((R.edges (x := x) w).2 h))]
  rw [et] at I'
  refine ⟨rfl, kp1.trans Kp.fp, _, _, rfl, .ok hv hx (by rw [Int.toNat_natCast]; exact R.upw), P.small, ?_, _, _, _, _, f1.next, I'⟩
  refine P.fst.add (fun w hw => ?_) (hr hx)
  unfold edges at hw
  simpa using (List.mem_filter.1 hw).2

theorem ints_one {n : Nat} {f : Nat → Int} : ∀ v ∈ ints n f, v.oneCell' = true := by
  intro z hz
  unfold ints at hz
  obtain ⟨i, _, rfl⟩ := List.mem_map.1 hz
  rfl
theorem st_new {h : H} {b e n : Nat} {zs vs : List Value} {K : H → Prop} (hn : vs.length = n) (hl : zs.length = n) (one : ∀ v ∈ vs, v.oneCell' = true)
    (k : K (hput h b (.cells ⟨vs⟩ e (0, 0)))) : stN (hput h b (.cells ⟨zs⟩ e (0, 0))) (bk b) vs n K := by
  refine ⟨hn, one, put_wr (i := 0) (by omega), ?_⟩
  rw [hset_put (by omega)]
  exact k
/-- A new block that is filled at once. -/
theorem new_st {h : H} {e n : Nat} {zs vs : List Value} {K : Nat → H → Prop} (hn : vs.length = n) (hl : zs.length = n) (one : ∀ v ∈ vs, v.oneCell' = true)
    (k : ∀ b g, h b = none → (∀ c, Kp c h g) → g b = some (.cells ⟨vs⟩ e (0, 0)) → (∀ i v, vs[i]? = some v → hcell g ((bk b).add i) = some v) → K b g) :
    newP h (.cells ⟨zs⟩ e (0, 0)) fun b h1 => stN h1 (bk b) vs n (K b) := by
  intro b hb
  refine st_new hn hl one ?_
  exact k b _ hb (fun c => Kp.put hb) (by simp [hput]) fun i v hi => put_ld hi

theorem mn_mem {tv : Nat → Int} : ∀ {l : List Nat}, mn tv l < 9223372036854775808 → ∃ a ∈ l, tv a = mn tv l := by
  intro l
  induction l with
  | nil => intro h; simp only [mn] at h; omega
  | cons a l ih =>
    intro h
    simp only [mn] at h ⊢
    by_cases h2 : tv a ≤ mn tv l
    · exact ⟨a, by simp, by omega⟩
    · obtain ⟨b, hb, e⟩ := ih (by omega)
      exact ⟨b, List.mem_cons_of_mem _ hb, by omega⟩

theorem Least_T (P : Forest h bf bn n par tv) (v : Int) :
    T Try.prog F.links_Forest_Least [fo bf, .int .i64 v] h fun r h' => Kp bn h h' ∧ Forest h' bf bn n par tv ∧
      ∃ a m c, r = .ret (.tuple ⟨[.int .i64 a, .int .i64 m, .int .i64 c]⟩) ∧ LeastS n par tv v a m c := by
  refine E_links_Forest_Least ?_
  unfold B_links_Forest_Least
  refine (child_T P v).mono ?_
  rintro _ h' ⟨kp, P', rfl, hc⟩
  refine ⟨_, rfl, ifP_of (fun h0 => ?_) (fun h0 => ?_)⟩
  · have h0 : ¬ childC n par v = 0 := by simpa using h0
    exact ⟨kp, P', _, _, _, rfl, .bad h0⟩
  have h0 : childC n par v = 0 := by simpa using h0
  obtain ⟨w, rfl, hw, hp, e, st, L, pd, f, A⟩ := hc h0
  refine (root_T f A.inv P.fst P.small hw).mono ?_
  rintro _ h1 ⟨r, rfl, st1, L1, pd1, f1, kp1, R⟩
  have hrn := R.rn
  have tl := R.tail
  obtain ⟨c, hc⟩ : ∃ c : Nat, st1 r 1 = c := by
    rcases pt_of R.inv hrn (k := 1) (by decide) with h | ⟨c, h, _⟩
    · exfalso
      have ul := R.upw
      rw [tl, LL_neg h] at ul
      cases ul with
      | root hh => exact hp hh
      | step _ hh => cases hh
    · exact ⟨c, h⟩
  have hcc : Ch st1 r c := .inr hc
  have hcn := (R.inv.ch r c hrn hcc).1
  rw [hc, LL_nat] at tl
  have pcz : w64 (pd1 c) = w64 0 := by rw [R.inv.pdc r c hrn hcc, R.p0, R.a0]; rfl
  have lc : st1 c 4 = mn tv (L1 c) := R.inv.lstZ P.fst hcn pcz
  refine ⟨_, rfl, nd f1.hd hrn ⟨_, f1.ld hrn (by decide), ?_⟩⟩
  rw [hc]
  refine nd f1.hd hcn ⟨_, f1.ld hcn (by decide), ?_⟩
  rw [lc]
  generalize hm : mn tv (L1 c) = m
  have mr := R.inv.mnRng P.fst c hcn
  rw [hm] at mr
  let I15 : (Int × Unit) → H → Nat → Prop := fun s g k =>
    ∃ st2 pd2 A B, ∃ u : Nat, s.1 = u ∧ u < n ∧ Fz g bf bn e n st2 ∧ Kp bn h g ∧ Inv n st2 L1 par tv pd2 ∧ w64 (pd2 u) = w64 0 ∧
      L1 c = A ++ L1 u ++ B ∧ (∀ x ∈ A, m < tv x) ∧ mn tv (L1 u) = m ∧ k = (L1 u).length
  refine ⟨fun s g => ∃ k, I15 s g k, rk I15, rk_wf I15, ⟨_, st1, pd1, [], [], c, rfl, hcn, f1, kp.trans kp1, R.inv, pcz, by simp, by simp, hm, rfl⟩, ?_⟩
  intro at' g hI
  obtain ⟨st2, pd2, X, Y, u, hu', hu, f2, kp2, J, pz, hL, hX, hmu, hk⟩ := mu_spec hI
  generalize hkk : mu I15 ((at', ()), g) = k at *
  change at' = (u : Int) at hu'
  subst hu'
  refine (push_A f2 hu (pt_of J hu (by decide)) (pt_of J hu (by decide))).mono ?_
  rintro _ _ ⟨rfl, rfl⟩
  refine ⟨rfl, ?_⟩
  have J3 := J.push P.fst hu
  have f3 : Fz (fp g bn e n 6 (pushS st2 u)) bf bn e n (pushS st2 u) := f2.next
  have chz : ∀ y, Ch (pushS st2 u) u y → w64 (pdPush st2 pd2 u y) = w64 0 := by
    intro y hy
    have := (Ch.congr (fun w j hj => pushS_link J P.fst hu w hj)).1 hy
    unfold pdPush
    rw [if_pos this, pz]
  have uz : w64 (pdPush st2 pd2 u u) = w64 0 := by
    unfold pdPush
    split <;> exact pz
  have kp3 : Kp bn h (fp g bn e n 6 (pushS st2 u)) := kp2.trans Kp.fp
  generalize pushS st2 u = st3 at *
  generalize pdPush st2 pd2 u = pd3 at *
  generalize fp g bn e n 6 st3 = g3 at *
  have v3 : st3 u 3 = tv u := by
    rw [J3.val u hu]
    obtain ⟨i, hi⟩ := w64_cg.1 uz
    have : w64 (tv u - pd3 u) = w64 (tv u) := w64_of ⟨-i, by omega⟩
    rw [this, w64_in (P.fst.rng u hu).1 (P.fst.rng u hu).2]
  have mU := J3.mnEq P.fst hu
  rw [hmu] at mU
  have inU := J3.ino u hu
  refine nd f3.hd hu ⟨ints 6 fun j => st3 u j, ints_length _ _, ?_, ?_⟩
  · intro i z hi
    have : i < 6 := by
      have := (List.getElem?_eq_some_iff.1 hi).1
      rwa [ints_length] at this
    rw [ints_get this] at hi
    cases hi
    exact f3.ld hu this
  refine new_st (ints_length _ _) rfl ints_one ?_
  intro b g4 hb kpg _ ldg
  have f4 := f3.kp (kpg b) (f3.ne hb).1 (f3.ne hb).2
  have kp4 : Kp bn h g4 := kp3.trans (kpg bn)
  have ld4 : ∀ {j : Nat}, j < 6 → hcell g4 ((bk b).add j) = some (.int .i64 (st3 u j)) := fun hj => ldg _ _ (ints_get hj)
  have stop : tv u = m → (∀ x ∈ LL L1 (st3 u 0), m < tv x) → T Try.prog F.links_Forest_splay [fo bf, vi u] g4 (rt (fun v36 h37 => v36 = .tuple ⟨[]⟩ ∧
      (Kp bn h h37 ∧ Forest h37 bf bn n par tv ∧ ∃ a m' c, Res.ret (.tuple ⟨[vi u, .int .i64 m, .int .i64 0]⟩) = Res.ret (.tuple ⟨[.int .i64 a, .int .i64 m', .int .i64 c]⟩) ∧ LeastS n par tv w a m' c))
      (fun v38 h39 => Kp bn h h39 ∧ Forest h39 bf bn n par tv ∧ ∃ a m' c, Res.pan v38 = Res.ret (.tuple ⟨[.int .i64 a, .int .i64 m', .int .i64 c]⟩) ∧ LeastS n par tv w a m' c)) := by
    intro ht hlow
    refine (splay_T f4 J3 P.fst P.small hu).mono ?_
    rintro _ g5 ⟨rfl, st5, L5, pd5, f5, kp5, R5⟩
    refine ⟨rfl, kp4.trans kp5, ⟨P.small, P.fst, _, _, _, _, f5, R5.inv⟩, u, m, 0, rfl, ?_⟩
    rw [← ht]
    have hall : ∀ x ∈ L1 c, m ≤ tv x := fun x hx => by rw [← hm]; exact mn_le hx
    refine LeastS.ok (A := Y.reverse ++ (LL L1 (st3 u 1)).reverse) (B := (LL L1 (st3 u 0)).reverse ++ X.reverse) (r := r) h0 ?_ ?_ ?_
    · rw [Int.toNat_natCast]
      have := R.upw
      rw [tl, hL, inU] at this
      simpa using this
    · intro x hx
      rw [ht]
      refine hall x ?_
      rw [hL, inU]
      simp only [List.mem_append, List.mem_reverse, List.mem_cons] at hx ⊢
      rcases hx with h | h
      · exact .inr h
      · exact .inl (.inr (.inr (.inr h)))
    · intro x hx
      rw [ht]
      simp only [List.mem_append, List.mem_reverse] at hx
      rcases hx with h | h
      · exact hlow x h
      · exact hX x h
  have right : tv u ≠ m → (∀ x ∈ LL L1 (st3 u 0), m < tv x) → (mn tv (LL L1 (st3 u 0)) ≠ m) → (∃ k, I15 (st3 u 1, ()) g4 k) ∧ rk I15 ((st3 u 1, ()), g4) (((u : Int), ()), g) := by
    intro ht hlow hne
    obtain ⟨y, hy⟩ : ∃ y : Nat, st3 u 1 = y := by
      rcases pt_of J3 hu (k := 1) (by decide) with h | ⟨y, h, _⟩
      · exfalso
        rw [LL_neg h] at mU
        simp only [mn] at mU
        omega
      · exact ⟨y, h⟩
    have hyc : Ch st3 u y := .inr hy
    have hyn := (J3.ch u y hu hyc).1
    rw [hy, LL_nat] at mU inU
    have hm1 : m < tv u ∧ m < mn tv (LL L1 (st3 u 0)) ∧ mn tv (L1 y) = m := by omega
    rw [hy]
    refine mu_next (I := I15) (k := (L1 y).length) ⟨st3, pd3, X ++ LL L1 (st3 u 0) ++ [u], Y, y, rfl, hyn, f4, kp4, J3, chz y hyc, ?_, ?_, hm1.2.2, rfl⟩ ?_
    · rw [hL, inU]; simp
    · intro x hx
      simp only [List.mem_append, List.mem_singleton] at hx
      rcases hx with (h | h) | h
      · exact hX x h
      · exact hlow x h
      · subst h; exact hm1.1
    · rw [hkk, hk]; exact J3.len hu hyc
  refine ⟨_, ld4 (by decide), ?_⟩
  refine ifP_of (fun hx => ?_) (fun hx => ?_)
  · have hx := of_decide_eq_true hx
    obtain ⟨y, hy⟩ : ∃ y : Nat, st3 u 0 = y := ⟨(st3 u 0).toNat, by omega⟩
    have hyc : Ch st3 u y := .inl hy
    have hyn := (J3.ch u y hu hyc).1
    refine ⟨_, f4.hd.ld, _, ld4 (by decide), ?_⟩
    rw [hy]
    refine nx hyn ⟨_, f4.ld hyn (by decide), ?_⟩
    rw [J3.lstZ P.fst hyn (chz y hyc)]
    refine ifP_of (fun he => ?_) (fun he => ?_)
    · have he := of_decide_eq_true he
      refine ⟨_, ld4 (by decide), ?_⟩
      rw [hy] at inU ⊢
      rw [LL_nat] at inU
      refine mu_next (I := I15) (k := (L1 y).length) ⟨st3, pd3, X, u :: LL L1 (st3 u 1) ++ Y, y, rfl, hyn, f4, kp4, J3, chz y hyc, ?_, hX, he, rfl⟩ ?_
      · rw [hL, inU]; simp
      · rw [hkk, hk]; exact J3.len hu hyc
    · have he := of_decide_eq_false he
      rw [hy] at stop right mU
      rw [LL_nat] at stop right mU
      have hlow : ∀ x ∈ L1 y, m < tv x := fun x hx => by
        have := mn_le (tv := tv) hx
        omega
      refine ⟨_, ld4 (by decide), ?_⟩
      rw [v3]
      refine ifP_of (fun ht => stop (of_decide_eq_true ht) hlow) (fun ht => ⟨_, ld4 (by decide), right (of_decide_eq_false ht) hlow he⟩)
  · have hx := of_decide_eq_false hx
    have e0 : LL L1 (st3 u 0) = [] := LL_neg (by omega)
    rw [e0] at stop right
    refine ⟨_, ld4 (by decide), ?_⟩
    rw [v3]
    refine ifP_of (fun ht => stop (of_decide_eq_true ht) (by simp)) (fun ht => ⟨_, ld4 (by decide), right (of_decide_eq_false ht) (by simp) (by simp only [mn]; omega)⟩)

end
end Go.Proofs.Ytgbmkfifjijoiaa
