import Derived.Test.YtgbmkfifjijoiaaK8
/-! splay: a node becomes the top of its splay tree. -/
namespace Go.Proofs.Ytgbmkfifjijoiaa
open Go
set_option linter.unusedVariables false

theorem Kp.to {b c : Nat} {h1 h2 h3 : H} (a : Kp b h1 h2) (k : Kp c h2 h3) (hc : h1 c = none) : Kp b h1 h3 := fun j o hj hh =>
  k j o (by rintro rfl; rw [hc] at hh; cases hh) (a j o hj hh)
theorem Fz.kp {h h' : H} {bf bn e n b : Nat} {st : St} (f : Fz h bf bn e n st) (k : Kp b h h') (h1 : b ≠ bf) (h2 : b ≠ bn) : Fz h' bf bn e n st := by
  obtain ⟨ne, ef, hf⟩ := f.hd
  exact ⟨⟨ne, ef, k _ _ (fun e => h1 e.symm) hf⟩, k _ _ (fun e => h2 e.symm) f.at_⟩
theorem Fz.put {h : H} {bf bn e n b : Nat} {st : St} {o : Obj} (f : Fz h bf bn e n st) (hb : h b = none) : Fz (hput h b o) bf bn e n st := by
  have h1 : b ≠ bf := by rintro rfl; obtain ⟨_, _, hf⟩ := f.hd; rw [hb] at hf; cases hf
  have h2 : b ≠ bn := by rintro rfl; have := f.at_; unfold At at this; rw [hb] at this; cases this
  exact f.kp (Kp.put (bn := b) hb) h1 h2
theorem Fz.ne {h : H} {bf bn e n b : Nat} {st : St} (f : Fz h bf bn e n st) (hb : h b = none) : b ≠ bf ∧ b ≠ bn := by
  constructor
  · rintro rfl; obtain ⟨_, _, hf⟩ := f.hd; rw [hb] at hf; cases hf
  · rintro rfl; have := f.at_; unfold At at this; rw [hb] at this; cases this
theorem Kp.none {bn b : Nat} {h h' : H} (k : Kp bn h h') (hb : h' b = none) (hn : b ≠ bn) : h b = none := by
  cases e : h b with
  | none => rfl
  | some o => rw [k b o hn e] at hb; cases hb
theorem Sl.put {h : H} {b b' : Nat} {p : Value} {vs : List Value} {o : Obj} (s : Sl h b p vs) (hb : h b' = none) : Sl (hput h b' o) b p vs := by
  have : b ≠ b' := by
    rintro rfl
    obtain ⟨c, e, zs, _, h2, _⟩ := s.ex
    rw [hb] at h2; cases h2
  exact s.kp (Kp.put (bn := b') hb) this

section
variable {bf bn n e : Nat} {h : H} {st : St} {L : Nat → List Nat} {par tv pd : Nat → Int}

theorem pt_of (I : Inv n st L par tv pd) {v k : Nat} (hv : v < n) (hk : k < 2) : Pt n (st v k) := by
  by_cases h0 : 0 ≤ st v k
  · right
    have hc : Ch st v (st v k).toNat := by
      have : k = 0 ∨ k = 1 := by omega
      rcases this with rfl | rfl
      · exact .inl (by omega)
      · exact .inr (by omega)
    exact ⟨(st v k).toNat, by omega, (I.ch v _ hv hc).1⟩
  · exact .inl (by omega)
theorem pc_of (I : Inv n st L par tv pd) {v k : Nat} (hv : v < n) (hk : k < 2) : Pc n v (st v k) := by
  rcases pt_of I hv hk with h | ⟨w, h, hw⟩
  · exact .inl h
  · refine .inr ⟨w, h, hw, ?_⟩
    have hc : Ch st v w := by
      have : k = 0 ∨ k = 1 := by omega
      rcases this with rfl | rfl
      · exact .inl h
      · exact .inr h
    exact I.chNe hv hc

theorem splay_T (f : Fz h bf bn e n st) (I : Inv n st L par tv pd) (Fo : Fst n par tv) (hn : n ≤ 1024) {v : Nat} (hv : v < n) :
    T Try.prog F.links_Forest_splay [fo bf, vi v] h fun r h' => r = .ret unit0 ∧
      ∃ st' L' pd', Fz h' bf bn e n st' ∧ Kp bn h h' ∧ SplayR n st st' L L' par tv pd' v := by
  refine E_links_Forest_splay ?_
  unfold B_links_Forest_splay
  intro b1 hb1
  let Up : Nat → Value → Nat → (Nat → Nat) → Nat → H → Prop := fun bp pv u p len hh =>
    u < n ∧ Kp bn h hh ∧ h bp = none ∧ Sl hh bp pv (ints (len + 1) fun i => p i) ∧ p 0 = v ∧ p len = u ∧
      (∀ i, i ≤ len → p i < n) ∧ (∀ i, i < len → st (p i) 2 = p (i + 1) ∧ Ch st (p (i + 1)) (p i)) ∧ len + 1 ≤ (L u).length
  let I3 : (Value × Int × Unit) → H → Nat → Prop := fun s hh k =>
    ∃ (bp u : Nat) (p : Nat → Nat) (len : Nat), s.2.1 = u ∧ Fz hh bf bn e n st ∧ Up bp s.1 u p len hh ∧ k = n - (L u).length
  refine ⟨fun s hh => ∃ k, I3 s hh k, rk I3, rk_wf I3, ?_, ?_⟩
  · refine ⟨_, b1, v, fun _ => v, 0, rfl, f.put hb1, ⟨hv, Kp.put hb1, hb1, ⟨1, _, [], rfl, by simp [hput]; exact ⟨rfl, rfl⟩, rfl⟩, rfl, rfl, fun _ _ => hv, fun i hi => by omega, ?_⟩, rfl⟩
    have := I.self hv
    exact List.length_pos_of_mem this
  · intro path u' hh hI
    obtain ⟨bp, u, p, len, hu', fz, ⟨hu, kp, hbp, sl, p0, pl, pn, pu, plen⟩, hk⟩ := mu_spec hI
    change u' = (u : Int) at hu'
    subst hu'
    refine (top_A fz hu (I.up u hu)).mono ?_
    rintro _ _ ⟨rfl, rfl⟩
    refine ⟨_, rfl, ifP_of (fun ht => ?_) (fun ht => ?_)⟩
    · -- one up
      have ht : topS st u = false := by simpa using ht
      obtain ⟨x, hx, hcx⟩ := topS_false ht
      have hxn := I.upn hu hx
      refine nd fz.hd hu ⟨_, fz.ld hu (by decide), ?_⟩
      rw [hx]
      intro b2 hb2
      have ne2 := fz.ne hb2
      refine (sl.put hb2).app1 (bx := b2) (x := vi x) (by simp [hput]; rfl) rfl (by decide) (by rw [ints_length]; have := I.short Fo hu; omega) ?_
      intro b' p' h' sl' kp' hb'
      have bpne : bp ≠ bf ∧ bp ≠ bn := f.ne hbp
      have fz' : Fz h' bf bn e n st := (fz.put hb2).kp kp' bpne.1 bpne.2
      have kpp : Kp bn h h' := (kp.trans (Kp.put hb2)).to kp' hbp
      have hb'n : h b' = none := by
        rcases hb' with rfl | hb'
        · exact hbp
        · exact Kp.none (kp.trans (Kp.put hb2)) hb' (Fz.ne (fz.put hb2) hb').2
      refine mu_next (I := I3) ⟨b', x, fun i => if i = len + 1 then x else p i, len + 1, rfl, fz', ⟨hxn, kpp, hb'n, ?_, ?_, ?_, ?_, ?_, ?_⟩, rfl⟩ ?_
      · have e1 : ints (len + 1 + 1) (fun i => ((if i = len + 1 then x else p i : Nat) : Int)) = ints (len + 1) (fun i => (p i : Int)) ++ [vi x] := by
          unfold ints
          rw [List.range_succ, List.map_append]
          congr 1
          · apply List.map_congr_left
            intro i hi
            have := List.mem_range.1 hi
            show Value.int .i64 ((if i = len + 1 then x else p i : Nat) : Int) = _
            rw [if_neg (by omega)]
          · simp
        rw [e1]
        exact sl'
      · simp only []
        rw [if_neg (by omega)]; exact p0
      · simp
      · intro i hi
        simp only []
        split
        · exact hxn
        · exact pn i (by omega)
      · intro i hi
        simp only []
        by_cases e1 : i = len
        · subst e1
          rw [if_neg (by omega), if_pos rfl, pl]
          exact ⟨hx, hcx⟩
        · rw [if_neg (by omega), if_neg (by omega)]
          exact pu i (by omega)
      · have := I.len hxn hcx
        omega
      · rw [hk]
        have h1 := I.len hxn hcx
        have h2 := I.short Fo hxn
        omega
    · -- the path is whole
      have ht : Top st u := topS_iff.1 (by simpa using ht)
      obtain ⟨pc, pe, pzs, hp, sl2, sl3⟩ := sl.ex
      rw [ints_length] at sl3 hp
      change path = _ at hp
      subst hp
      have hln : len + 1 ≤ n := Nat.le_trans plen (I.short Fo hu)
      have wl : IntKind.i64.wrap (((len + 1 : Nat) : Int) - 1) = ((len + 1 : Nat) : Int) - 1 := w64_in (by omega) (by omega)
      -- lengths rise along the path
      have rise : ∀ i j, i < j → j ≤ len → (L (p i)).length < (L (p j)).length := by
        intro i j hij hj
        induction j with
        | zero => omega
        | succ j ih =>
          have h1 := I.len (pn (j + 1) hj) (pu j (by omega)).2
          by_cases e1 : i = j
          · subst e1; exact h1
          · have := ih (by omega) (by omega)
            omega
      have bpne : bp ≠ bf ∧ bp ≠ bn := f.ne hbp
      let I22 : (Int × Unit) → H → Nat → Prop := fun s g k =>
        ∃ st1 pd1, s.1 = (k : Int) - 1 ∧ k ≤ len + 1 ∧ (∀ w j, j < 3 → st1 w j = st w j) ∧ Inv n st1 L par tv pd1 ∧ Fz g bf bn e n st1 ∧ Kp bn h g ∧ Kp bn hh g ∧
          (∀ j, k ≤ j → j ≤ len → st1 (p j) 5 = 0 ∧ pd1 (p j) = 0) ∧ (∀ j, j + 1 = k → pd1 (p j) = 0)
      refine ⟨fun s g => ∃ k, I22 s g k, rk I22, rk_wf I22, ?_, ?_⟩
      · refine ⟨len + 1, st, pd, wl, Nat.le_refl _, fun _ _ _ => rfl, I, fz, kp, Kp.refl, fun j h1 h2 => by omega, fun j hj => ?_⟩
        have : j = len := by omega
        subst this
        rw [pl]; exact I.pdt u hu ht
      · intro i' g hI
        obtain ⟨st1, pd1, hi', hk1, lk, I1, fz1, kp1, kp2, z1, z2⟩ := mu_spec hI
        generalize hkk : mu I22 ((i', ()), g) = k at *
        change i' = (k : Int) - 1 at hi'
        refine ifP_of (fun hi0 => ?_) (fun hi0 => ?_)
        · have hi0 := of_decide_eq_true hi0
          obtain ⟨i, rfl⟩ : ∃ i, k = i + 1 := ⟨k - 1, by omega⟩
          have ei : i' = (i : Int) := by omega
          subst ei
          refine nx (n := len + 1) (by omega) ?_
          have slg := sl.kp kp2 bpne.2
          refine ⟨_, slg.get (ints_get (by omega)), ?_⟩
          have hpi := pn i (by omega)
          refine (push_A fz1 hpi (pt_of I1 hpi (by decide)) (pt_of I1 hpi (by decide))).mono ?_
          rintro _ _ ⟨rfl, rfl⟩
          refine ⟨rfl, ?_⟩
          have wi : IntKind.i64.wrap ((i : Int) - 1) = (i : Int) - 1 := w64_in (by omega) (by omega)
          have nch : ∀ j, i ≤ j → j ≤ len → ¬ Ch st1 (p i) (p j) := by
            intro j hij hj hc
            have := I1.len hpi hc
            by_cases e1 : i = j
            · subst e1; omega
            · have := rise i j (by omega) hj
              omega
          refine mu_next (I := I22) (k := i) ⟨pushS st1 (p i), pdPush st1 pd1 (p i), wi, by omega, fun w j hj => ?_, I1.push Fo hpi, fz1.next, kp1.trans Kp.fp, kp2.trans Kp.fp, fun j h1 h2 => ?_, fun j hj => ?_⟩ (by rw [hkk]; omega)
          · rw [pushS_link I1 Fo hpi w hj, lk w j hj]
          · rw [pushS_eq I1 Fo hpi, if_neg (by decide), if_pos rfl]
            unfold pdPush
            rw [if_neg (nch j h1 h2)]
            by_cases e1 : j = i
            · subst e1
              rw [if_pos rfl]
              refine ⟨rfl, ?_⟩
              have := z2 j rfl
              split <;> exact this
            · have : p j ≠ p i := by
                intro e2
                have := rise i j (by omega) h2
                rw [e2] at this; omega
              rw [if_neg this, if_neg (nch j h1 h2)]
              exact z1 j (by omega) h2
          · unfold pdPush
            subst hj
            have : Ch st1 (p (j + 1)) (p j) := (Ch.congr lk).2 (pu j (by omega)).2
            rw [if_pos this]
            exact z2 (j + 1) rfl
        · -- all is handed on
          have hi0 := of_decide_eq_false hi0
          have hk0 : k = 0 := by omega
          subst hk0
          have memp : ∀ i j, i + j = len → ∀ w, w < n → p i ∈ L w → ∃ j, j ≤ len ∧ w = p j := by
            intro i j
            induction j generalizing i with
            | zero =>
              intro hij w hw hm
              have e1 : i = len := by omega
              subst e1
              rw [pl] at hm
              exact ⟨i, Nat.le_refl _, by rw [pl]; exact (I.top_of_mem hw hm ht).symm⟩
            | succ j ih =>
              intro hij w hw hm
              rcases I.anc w hw (p i) hm with h1 | ⟨x, hx, hxn, hcx, hxw⟩
              · exact ⟨i, by omega, h1.symm⟩
              · have := (pu i (by omega)).1
                have e1 : x = p (i + 1) := by omega
                subst e1
                exact ih (i + 1) (by omega) w hw hxw
          have vu : v ∈ L u := by
            have : ∀ j, j ≤ len → v ∈ L (p j) := by
              intro j
              induction j with
              | zero => intro _; rw [p0]; exact I.self hv
              | succ j ih => intro hj; exact I.sub (pn (j + 1) hj) (pu j (by omega)).2 (ih (by omega))
            have := this len (Nat.le_refl _)
            rwa [pl] at this
          let I32 : Unit → H → Nat → Prop := fun _ g k =>
            ∃ st2 L2 pd2 t, Sp n st2 L2 par tv pd2 v t ∧ Fz g bf bn e n st2 ∧ Kp bn h g ∧ L2 t = L u ∧ st2 t 2 = st u 2 ∧
              (∀ w, w < n → Top st w → v ∉ L w → Top st2 w ∧ st2 w 2 = st w 2 ∧ L2 w = L w) ∧ k = n - (L2 v).length
          refine ⟨fun s g => ∃ k, I32 s g k, rk I32, rk_wf I32, ?_, ?_⟩
          · refine ⟨_, st1, L, pd1, u, ⟨I1, hv, hu, (Top.congr lk).2 ht, vu, fun w hw hm => ?_⟩, fz1, kp1, rfl, lk _ _ (by decide), fun w hw hT _ => ⟨(Top.congr lk).2 hT, lk _ _ (by decide), rfl⟩, rfl⟩
            rw [← p0] at hm
            obtain ⟨j, hj, rfl⟩ := memp 0 len (by omega) w hw hm
            exact z1 j (by omega) hj
          · intro g2 hI
            obtain ⟨st2, L2, pd2, t, S, fz2, kp3, hLt, ht2, hfr, hk2⟩ := mu_spec hI
            generalize hkk2 : mu I32 ((), g2) = k2 at *
            refine (top_A fz2 hv (S.inv.up v hv)).mono ?_
            rintro _ _ ⟨rfl, rfl⟩
            refine ⟨_, rfl, ifP_of (fun hT => ?_) (fun hT => ?_)⟩
            · have hT : ¬ Top st2 v := fun h => by rw [topS_iff.2 h] at hT; cases hT
              have vt : v ≠ t := by rintro rfl; exact hT S.top
              obtain ⟨x, hx, hcx⟩ := not_top hT
              have hxn := S.inv.upn hv hx
              have hvx : v ∈ L2 x := S.inv.sub hxn hcx (S.inv.self hv)
              have vx : v ≠ x := S.inv.chNe hxn hcx
              refine nd fz2.hd hv ⟨_, fz2.ld hv (by decide), ?_⟩
              rw [hx]
              refine (top_A fz2 hxn (S.inv.up x hxn)).mono ?_
              rintro _ _ ⟨rfl, rfl⟩
              refine ⟨_, rfl, ?_⟩
              have frs : ∀ {st3 : St} {L3 : Nat → List Nat} {t' x y : Nat}, SpR n st2 st3 L2 L3 par tv pd2 v t t' x y →
                  ∀ w, w < n → Top st w → v ∉ L w → Top st3 w ∧ st3 w 2 = st w 2 ∧ L3 w = L w := by
                intro st3 L3 t' x y R w hw h1 h2
                obtain ⟨a1, a2, a3⟩ := hfr w hw h1 h2
                obtain ⟨b1, b2, b3⟩ := R.fr w hw a1 (by rw [a3]; exact h2)
                exact ⟨b1, b2.trans a2, b3.trans a3⟩
              -- two turns, the second with v
              have second : ∀ {st3 : St} {L3 : Nat → List Nat} {t' x y : Nat} {g3 : H}, SpR n st2 st3 L2 L3 par tv pd2 v t t' x y → v ≠ t' → Fz g3 bf bn e n st3 → Kp bn h g3 →
                  (L2 v).length ≤ (L3 v).length →
                  T Try.prog F.links_Forest_rotate [fo bf, vi v] g3 (rt (fun v59 h60 => v59 = .tuple ⟨[]⟩ ∧ (∃ k, I32 () h60 k) ∧ rk I32 ((), h60) ((), g2))
                    (fun v61 h62 => Res.pan v61 = Res.ret unit0 ∧ ∃ st' L' pd', Fz h62 bf bn e n st' ∧ Kp bn h h62 ∧ SplayR n st st' L L' par tv pd' v)) := by
                intro st3 L3 t' x y g3 R vt' fz3 kp4 hlen
                have hT3 : ¬ Top st3 v := fun h => vt' (R.sp.inv.top_of_mem R.sp.tn R.sp.mem h)
                refine R.sp.rot_A fz3 Fo hv (R.sp.inv.self hv) hT3 ?_
                intro y2 L4 t2 hy2 e4 hc4 ne4 R4
                refine ⟨rfl, mu_next (I := I32) (k := n - (L4 v).length) ⟨_, L4, pd2, t2, R4.sp, fz3.next, kp4.trans Kp.fp, by rw [R4.lt, R.lt, hLt], by rw [R4.e2, R.e2, ht2], ?_, rfl⟩ ?_⟩
                · intro w hw h1 h2
                  obtain ⟨a1, a2, a3⟩ := frs R w hw h1 h2
                  obtain ⟨b1, b2, b3⟩ := R4.fr w hw a1 (by rw [a3]; exact h2)
                  exact ⟨b1, b2.trans a2, b3.trans a3⟩
                · rw [hkk2, hk2, R4.lx]
                  have l1 := R.sp.inv.len hy2 hc4
                  have l2 := R.sp.inv.short Fo hy2
                  omega
              refine ifP_of (fun hT2 => ?_) (fun hT2 => ?_)
              · have hT2 : ¬ Top st2 x := fun h => by rw [topS_iff.2 h] at hT2; cases hT2
                obtain ⟨y, hy, hcy⟩ := not_top hT2
                have hyn := S.inv.upn hxn hy
                refine nd fz2.hd hxn ⟨_, fz2.ld hxn (by decide), ?_⟩
                rw [hy]
                refine ⟨_, fz2.hd.ld, nx hxn ⟨_, fz2.ld hxn (by decide), _, fz2.hd.ld, nx hyn ⟨_, fz2.ld hyn (by decide), ?_⟩⟩⟩
                have vny : v ≠ y := by
                  rintro rfl
                  have := S.inv.len hyn hcy
                  have := S.inv.len hxn hcx
                  omega
                refine ifP_of (fun _ => ?_) (fun _ => ?_)
                · refine S.rot_A fz2 Fo hxn hvx hT2 ?_
                  intro y2 L3 t' hy2 e3 hc3 ne3 R
                  have ey : y2 = y := by omega
                  subst ey
                  refine ⟨rfl, second R ?_ fz2.next (kp3.trans Kp.fp) ?_⟩
                  · rcases R.tt with rfl | rfl
                    · exact vx
                    · exact vt
                  · rw [R.lo v vx vny]
                    exact Nat.le_refl _
                · refine S.rot_A fz2 Fo hv (S.inv.self hv) hT ?_
                  intro y2 L3 t' hy2 e3 hc3 ne3 R
                  have ey : y2 = x := by omega
                  subst ey
                  refine ⟨rfl, second R ?_ fz2.next (kp3.trans Kp.fp) ?_⟩
                  · rw [R.tt2 hT2]; exact vt
                  · rw [R.lx]
                    exact Nat.le_of_lt (S.inv.len hxn hcx)
              · refine S.rot_A fz2 Fo hv (S.inv.self hv) hT ?_
                intro y2 L3 t' hy2 e3 hc3 ne3 R
                have ey : y2 = x := by omega
                subst ey
                refine ⟨rfl, mu_next (I := I32) (k := n - (L3 v).length) ⟨_, L3, pd2, t', R.sp, fz2.next, kp3.trans Kp.fp, by rw [R.lt, hLt], by rw [R.e2, ht2], frs R, rfl⟩ ?_⟩
                rw [hkk2, hk2, R.lx]
                have l1 := S.inv.len hxn hcx
                have l2 := S.inv.short Fo hxn
                omega
            · have hT : Top st2 v := topS_iff.1 (by simpa using hT)
              have e1 : v = t := S.inv.top_of_mem S.tn S.mem hT
              subst e1
              refine ⟨rfl, st2, L2, pd2, fz2, kp3, S.inv, hT, ⟨u, hu, ht, vu, hLt, ht2⟩, (S.cl v hv S.mem).1, (S.cl v hv S.mem).2, hfr⟩

end
end Go.Proofs.Ytgbmkfifjijoiaa
