import Derived.Test.YtdcamadeblojdaaGreatWP2
namespace Go.Proofs.YtdcamadeblojdaaGreat
open Go
set_option linter.unusedVariables false

theorem Kp.to {b c : Nat} {h1 h2 h3 : H} (a : Kp b h1 h2) (k : Kp c h2 h3) (hc : h1 c = none) : Kp b h1 h3 := fun j o hj hh =>
  k j o (by rintro rfl; rw [hc] at hh; cases hh) (a j o hj hh)
theorem Fz.kp {h h' : H} {bf bn e n b : Nat} {st : St} (f : Fz h bf bn e n st) (k : Kp b h h') (h1 : b ≠ bf) (h2 : b ≠ bn) : Fz h' bf bn e n st := by
  obtain ⟨ne, ef, hf⟩ := f.hd
  exact ⟨⟨ne, ef, k _ _ (fun e => h1 e.symm) hf⟩, k _ _ (fun e => h2 e.symm) f.at_⟩
theorem Fz.put {h : H} {bf bn e n b : Nat} {st : St} {o : Obj} (f : Fz h bf bn e n st) (hb : h b = none) : Fz (hput h b o) bf bn e n st := by
  have h1 : b ≠ bf := by rintro rfl; obtain ⟨_, _, hf⟩ := f.hd; rw [hb] at hf; cases hf
  have h2 : b ≠ bn := by rintro rfl; have := f.at_; unfold At at this; rw [hb] at this; cases this
  exact f.kp (Kp.put (bn := b) hb) h1 h2
theorem Fz.ne {h : H} {bf bn e n b : Nat} {st : St} (f : Fz h bf bn e n st) (hb : h b = none) : b ≠ bf ∧ b ≠ bn := by
  constructor
  · rintro rfl; obtain ⟨_, _, hf⟩ := f.hd; rw [hb] at hf; cases hf
  · rintro rfl; have := f.at_; unfold At at this; rw [hb] at this; cases this
theorem Kp.none {bn b : Nat} {h h' : H} (k : Kp bn h h') (hb : h' b = none) (hn : b ≠ bn) : h b = none := by
  cases e : h b with
  | none => rfl
  | some o => rw [k b o hn e] at hb; cases hb
theorem Sl.put {h : H} {b b' : Nat} {p : Value} {vs : List Value} {o : Obj} (s : Sl h b p vs) (hb : h b' = none) : Sl (hput h b' o) b p vs := by
  have : b ≠ b' := by
    rintro rfl
    obtain ⟨c, e, zs, _, h2, _⟩ := s.ex
    rw [hb] at h2; cases h2
  exact s.kp (Kp.put (bn := b') hb) this

section
variable {bf bn n e : Nat} {h : H} {st : St} {L : Nat → List Nat} {par tv pd : Nat → Int}

theorem pt_of (I : Inv n st L par tv pd) {v k : Nat} (hv : v < n) (hk : k < 2) : Pt n (st v k) := by
  by_cases h0 : 0 ≤ st v k
  · right
    have hc : Ch st v (st v k).toNat := by
      have : k = 0 ∨ k = 1 := by omega
      rcases this with rfl | rfl
      · exact .inl (by omega)
      · exact .inr (by omega)
    exact ⟨(st v k).toNat, by omega, (I.ch v _ hv hc).1⟩
  · exact .inl (by omega)
theorem pc_of (I : Inv n st L par tv pd) {v k : Nat} (hv : v < n) (hk : k < 2) : Pc n v (st v k) := by
  rcases pt_of I hv hk with h | ⟨w, h, hw⟩
  · exact .inl h
  · refine .inr ⟨w, h, hw, ?_⟩
    have hc : Ch st v w := by
      have : k = 0 ∨ k = 1 := by omega
      rcases this with rfl | rfl
      · exact .inl h
      · exact .inr h
    exact I.chNe hv hc

theorem splay_T (f : Fz h bf bn e n st) (I : Inv n st L par tv pd) (Fo : Fst n par tv) (hn : n ≤ 1024) {v : Nat} (hv : v < n) :
    T Tryz.prog F.links_Forest_splay [fo bf, vi v] h fun r h' => r = .ret unit0 ∧
      ∃ st' L' pd', Fz h' bf bn e n st' ∧ Kp bn h h' ∧ SplayR n st st' L L' par tv pd' v := by
  refine E_links_Forest_splay ?_
  unfold B_links_Forest_splay
  intro b1 hb1
  let Up : Nat → Value → Nat → (Nat → Nat) → Nat → H → Prop := fun bp pv u p len hh =>
    u < n ∧ Kp bn h hh ∧ h bp = none ∧ Sl hh bp pv (ints (len + 1) fun i => p i) ∧ p 0 = v ∧ p len = u ∧
      (∀ i, i ≤ len → p i < n) ∧ (∀ i, i < len → st (p i) 2 = p (i + 1) ∧ Ch st (p (i + 1)) (p i)) ∧ len + 1 ≤ (L u).length
  let I3 : (Value × Int × Unit) → H → Nat → Prop := fun s hh k =>
    ∃ (bp u : Nat) (p : Nat → Nat) (len : Nat), s.2.1 = u ∧ Fz hh bf bn e n st ∧ Up bp s.1 u p len hh ∧ k = n - (L u).length
  refine ⟨fun s hh => ∃ k, I3 s hh k, rk I3, rk_wf I3, ?_, ?_⟩
  · refine ⟨_, b1, v, fun _ => v, 0, rfl, f.put hb1, ⟨hv, Kp.put hb1, hb1, ⟨1, _, [], rfl, by simp [hput]; exact ⟨rfl, rfl⟩, rfl⟩, rfl, rfl, fun _ _ => hv, fun i hi => by omega, ?_⟩, rfl⟩
    have := I.self hv
    exact List.length_pos_of_mem this
  · intro path u' hh hI
    obtain ⟨bp, u, p, len, hu', fz, ⟨hu, kp, hbp, sl, p0, pl, pn, pu, plen⟩, hk⟩ := mu_spec hI
    change u' = (u : Int) at hu'
    subst hu'
    refine (top_A fz hu (I.up u hu)).mono ?_
    rintro _ _ ⟨rfl, rfl⟩
    refine ⟨_, rfl, ifP_of (fun ht => ?_) (fun ht => ?_)⟩
    · -- one up
      have ht : topS st u = false := by simpa using ht
      obtain ⟨x, hx, hcx⟩ := topS_false ht
      have hxn := I.upn hu hx
      refine nd fz.hd hu ⟨_, fz.ld hu (by decide), ?_⟩
      rw [hx]
      intro b2 hb2
      have ne2 := fz.ne hb2
      refine (sl.put hb2).app1 (bx := b2) (x := vi x) (by simp [hput]; rfl) rfl (by decide) (by rw [ints_length]; have := I.short Fo hu; omega) ?_
      intro b' p' h' sl' kp' hb'
      have bpne : bp ≠ bf ∧ bp ≠ bn := f.ne hbp
      have fz' : Fz h' bf bn e n st := (fz.put hb2).kp kp' bpne.1 bpne.2
      have kpp : Kp bn h h' := (kp.trans (Kp.put hb2)).to kp' hbp
      have hb'n : h b' = none := by
        rcases hb' with rfl | hb'
        · exact hbp
        · exact Kp.none (kp.trans (Kp.put hb2)) hb' (Fz.ne (fz.put hb2) hb').2
      refine mu_next (I := I3) ⟨b', x, fun i => if i = len + 1 then x else p i, len + 1, rfl, fz', ⟨hxn, kpp, hb'n, ?_, ?_, ?_, ?_, ?_, ?_⟩, rfl⟩ ?_
      · have e1 : ints (len + 1 + 1) (fun i => ((if i = len + 1 then x else p i : Nat) : Int)) = ints (len + 1) (fun i => (p i : Int)) ++ [vi x] := by
          unfold ints
          rw [List.range_succ, List.map_append]
          congr 1
          · apply List.map_congr_left
            intro i hi
            have := List.mem_range.1 hi
            show Value.int .i64 ((if i = len + 1 then x else p i : Nat) : Int) = _
            rw [if_neg (by omega)]
          · simp
        rw [e1]
        exact sl'
      · simp only []
        rw [if_neg (by omega)]; exact p0
      · simp
      · intro i hi
        simp only []
        split
        · exact hxn
        · exact pn i (by omega)
      · intro i hi
        simp only []
        by_cases e1 : i = len
        · subst e1
          rw [if_neg (by omega), if_pos rfl, pl]
          exact ⟨hx, hcx⟩
        · rw [if_neg (by omega), if_neg (by omega)]
          exact pu i (by omega)
      · have := I.len hxn hcx
        omega
      · rw [hk]
        have h1 := I.len hxn hcx
        have h2 := I.short Fo hxn
        omega
    · -- the path is whole
      have ht : Top st u := topS_iff.1 (by simpa using ht)
      obtain ⟨pc, pe, pzs, hp, sl2, sl3⟩ := sl.ex
      rw [ints_length] at sl3 hp
      change path = _ at hp
      subst hp
      have hln : len + 1 ≤ n := Nat.le_trans plen (I.short Fo hu)
      have wl : IntKind.i64.wrap (((len + 1 : Nat) : Int) - 1) = ((len + 1 : Nat) : Int) - 1 := w64_in (by omega) (by omega)
      -- lengths rise along the path
      have rise : ∀ i j, i < j → j ≤ len → (L (p i)).length < (L (p j)).length := by
        intro i j hij hj
        induction j with
        | zero => omega
        | succ j ih =>
          have h1 := I.len (pn (j + 1) hj) (pu j (by omega)).2
          by_cases e1 : i = j
          · subst e1; exact h1
          · have := ih (by omega) (by omega)
            omega
      have bpne : bp ≠ bf ∧ bp ≠ bn := f.ne hbp
      let I22 : (Int × Unit) → H → Nat → Prop := fun s g k =>
        ∃ st1 pd1, s.1 = (k : Int) - 1 ∧ k ≤ len + 1 ∧ (∀ w j, j < 3 → st1 w j = st w j) ∧ Inv n st1 L par tv pd1 ∧ Fz g bf bn e n st1 ∧ Kp bn h g ∧ Kp bn hh g ∧
          (∀ j, k ≤ j → j ≤ len → st1 (p j) 5 = 0 ∧ pd1 (p j) = 0) ∧ (∀ j, j + 1 = k → pd1 (p j) = 0)
      refine ⟨fun s g => ∃ k, I22 s g k, rk I22, rk_wf I22, ?_, ?_⟩
      · refine ⟨len + 1, st, pd, wl, Nat.le_refl _, fun _ _ _ => rfl, I, fz, kp, Kp.refl, fun j h1 h2 => by omega, fun j hj => ?_⟩
        have : j = len := by omega
        subst this
        rw [pl]; exact I.pdt u hu ht
      · intro i' g hI
        obtain ⟨st1, pd1, hi', hk1, lk, I1, fz1, kp1, kp2, z1, z2⟩ := mu_spec hI
        generalize hkk : mu I22 ((i', ()), g) = k at *
        change i' = (k : Int) - 1 at hi'
        refine ifP_of (fun hi0 => ?_) (fun hi0 => ?_)
        · have hi0 := of_decide_eq_true hi0
          obtain ⟨i, rfl⟩ : ∃ i, k = i + 1 := ⟨k - 1, by omega⟩
          have ei : i' = (i : Int) := by omega
          subst ei
          refine nx (n := len + 1) (by omega) ?_
          have slg := sl.kp kp2 bpne.2
          refine ⟨_, slg.get (ints_get (by omega)), ?_⟩
          have hpi := pn i (by omega)
          refine (push_A fz1 hpi (pt_of I1 hpi (by decide)) (pt_of I1 hpi (by decide))).mono ?_
          rintro _ _ ⟨rfl, rfl⟩
          refine ⟨rfl, ?_⟩
          have wi : IntKind.i64.wrap ((i : Int) - 1) = (i : Int) - 1 := w64_in (by omega) (by omega)
          have nch : ∀ j, i ≤ j → j ≤ len → ¬ Ch st1 (p i) (p j) := by
            intro j hij hj hc
            have := I1.len hpi hc
            by_cases e1 : i = j
            · subst e1; omega
            · have := rise i j (by omega) hj
              omega
          refine mu_next (I := I22) (k := i) ⟨pushS st1 (p i), pdPush st1 pd1 (p i), wi, by omega, fun w j hj => ?_, I1.push Fo hpi, fz1.next, kp1.trans Kp.fp, kp2.trans Kp.fp, fun j h1 h2 => ?_, fun j hj => ?_⟩ (by rw [hkk]; omega)
          · rw [pushS_link I1 Fo hpi w hj, lk w j hj]
          · rw [pushS_eq I1 Fo hpi, if_neg (by decide), if_pos rfl]
            unfold pdPush
            rw [if_neg (nch j h1 h2)]
            by_cases e1 : j = i
            · subst e1
              rw [if_pos rfl]
              refine ⟨rfl, ?_⟩
              have := z2 j rfl
              split <;> exact this
            · have : p j ≠ p i := by
                intro e2
                have := rise i j (by omega) h2
                rw [e2] at this; omega
              rw [if_neg this, if_neg (nch j h1 h2)]
              exact z1 j (by omega) h2
          · unfold pdPush
            subst hj
            have : Ch st1 (p (j + 1)) (p j) := (Ch.congr lk).2 (pu j (by omega)).2
            rw [if_pos this]
            exact z2 (j + 1) rfl
        · -- all is handed on
          have hi0 := of_decide_eq_false hi0
          have hk0 : k = 0 := by omega
          subst hk0
          have memp : ∀ i j, i + j = len → ∀ w, w < n → p i ∈ L w → ∃ j, j ≤ len ∧ w = p j := by
            intro i j
            induction j generalizing i with
            | zero =>
              intro hij w hw hm
              have e1 : i = len := by omega
              subst e1
              rw [pl] at hm
              exact ⟨i, Nat.le_refl _, by rw [pl]; exact (I.top_of_mem hw hm ht).symm⟩
            | succ j ih =>
              intro hij w hw hm
              rcases I.anc w hw (p i) hm with h1 | ⟨x, hx, hxn, hcx, hxw⟩
              · exact ⟨i, by omega, h1.symm⟩
              · have := (pu i (by omega)).1
                have e1 : x = p (i + 1) := by omega
                subst e1
                exact ih (i + 1) (by omega) w hw hxw
          have vu : v ∈ L u := by
            have : ∀ j, j ≤ len → v ∈ L (p j) := by
              intro j
              induction j with
              | zero => intro _; rw [p0]; exact I.self hv
              | succ j ih => intro hj; exact I.sub (pn (j + 1) hj) (pu j (by omega)).2 (ih (by omega))
            have := this len (Nat.le_refl _)
            rwa [pl] at this
          let I32 : Unit → H → Nat → Prop := fun _ g k =>
            ∃ st2 L2 pd2 t, Sp n st2 L2 par tv pd2 v t ∧ Fz g bf bn e n st2 ∧ Kp bn h g ∧ L2 t = L u ∧ st2 t 2 = st u 2 ∧
              (∀ w, w < n → Top st w → v ∉ L w → Top st2 w ∧ st2 w 2 = st w 2 ∧ L2 w = L w) ∧ k = n - (L2 v).length
          refine ⟨fun s g => ∃ k, I32 s g k, rk I32, rk_wf I32, ?_, ?_⟩
          · refine ⟨_, st1, L, pd1, u, ⟨I1, hv, hu, (Top.congr lk).2 ht, vu, fun w hw hm => ?_⟩, fz1, kp1, rfl, lk _ _ (by decide), fun w hw hT _ => ⟨(Top.congr lk).2 hT, lk _ _ (by decide), rfl⟩, rfl⟩
            rw [← p0] at hm
            obtain ⟨j, hj, rfl⟩ := memp 0 len (by omega) w hw hm
            exact z1 j (by omega) hj
          · intro g2 hI
            obtain ⟨st2, L2, pd2, t, S, fz2, kp3, hLt, ht2, hfr, hk2⟩ := mu_spec hI
            generalize hkk2 : mu I32 ((), g2) = k2 at *
            refine (top_A fz2 hv (S.inv.up v hv)).mono ?_
            rintro _ _ ⟨rfl, rfl⟩
            refine ⟨_, rfl, ifP_of (fun hT => ?_) (fun hT => ?_)⟩
            · have hT : ¬ Top st2 v := fun h => by rw [topS_iff.2 h] at hT; cases hT
              have vt : v ≠ t := by rintro rfl; exact hT S.top
              obtain ⟨x, hx, hcx⟩ := not_top hT
              have hxn := S.inv.upn hv hx
              have hvx : v ∈ L2 x := S.inv.sub hxn hcx (S.inv.self hv)
              have vx : v ≠ x := S.inv.chNe hxn hcx
              refine nd fz2.hd hv ⟨_, fz2.ld hv (by decide), ?_⟩
              rw [hx]
              refine (top_A fz2 hxn (S.inv.up x hxn)).mono ?_
              rintro _ _ ⟨rfl, rfl⟩
              refine ⟨_, rfl, ?_⟩
              have frs : ∀ {st3 : St} {L3 : Nat → List Nat} {t' x y : Nat}, SpR n st2 st3 L2 L3 par tv pd2 v t t' x y →
                  ∀ w, w < n → Top st w → v ∉ L w → Top st3 w ∧ st3 w 2 = st w 2 ∧ L3 w = L w := by
                intro st3 L3 t' x y R w hw h1 h2
                obtain ⟨a1, a2, a3⟩ := hfr w hw h1 h2
                obtain ⟨b1, b2, b3⟩ := R.fr w hw a1 (by rw [a3]; exact h2)
                exact ⟨b1, b2.trans a2, b3.trans a3⟩
              -- two turns, the second with v
              have second : ∀ {st3 : St} {L3 : Nat → List Nat} {t' x y : Nat} {g3 : H}, SpR n st2 st3 L2 L3 par tv pd2 v t t' x y → v ≠ t' → Fz g3 bf bn e n st3 → Kp bn h g3 →
                  (L2 v).length ≤ (L3 v).length →
                  T Tryz.prog F.links_Forest_rotate [fo bf, vi v] g3 (rt (fun v59 h60 => v59 = .tuple ⟨[]⟩ ∧ (∃ k, I32 () h60 k) ∧ rk I32 ((), h60) ((), g2))
                    (fun v61 h62 => Res.pan v61 = Res.ret unit0 ∧ ∃ st' L' pd', Fz h62 bf bn e n st' ∧ Kp bn h h62 ∧ SplayR n st st' L L' par tv pd' v)) := by
                intro st3 L3 t' x y g3 R vt' fz3 kp4 hlen
                have hT3 : ¬ Top st3 v := fun h => vt' (R.sp.inv.top_of_mem R.sp.tn R.sp.mem h)
                refine R.sp.rot_A fz3 Fo hv (R.sp.inv.self hv) hT3 ?_
                intro y2 L4 t2 hy2 e4 hc4 ne4 R4
                refine ⟨rfl, mu_next (I := I32) (k := n - (L4 v).length) ⟨_, L4, pd2, t2, R4.sp, fz3.next, kp4.trans Kp.fp, by rw [R4.lt, R.lt, hLt], by rw [R4.e2, R.e2, ht2], ?_, rfl⟩ ?_⟩
                · intro w hw h1 h2
                  obtain ⟨a1, a2, a3⟩ := frs R w hw h1 h2
                  obtain ⟨b1, b2, b3⟩ := R4.fr w hw a1 (by rw [a3]; exact h2)
                  exact ⟨b1, b2.trans a2, b3.trans a3⟩
                · rw [hkk2, hk2, R4.lx]
                  have l1 := R.sp.inv.len hy2 hc4
                  have l2 := R.sp.inv.short Fo hy2
                  omega
              refine ifP_of (fun hT2 => ?_) (fun hT2 => ?_)
              · have hT2 : ¬ Top st2 x := fun h => by rw [topS_iff.2 h] at hT2; cases hT2
                obtain ⟨y, hy, hcy⟩ := not_top hT2
                have hyn := S.inv.upn hxn hy
                refine nd fz2.hd hxn ⟨_, fz2.ld hxn (by decide), ?_⟩
                rw [hy]
                refine ⟨_, fz2.hd.ld, nx hxn ⟨_, fz2.ld hxn (by decide), _, fz2.hd.ld, nx hyn ⟨_, fz2.ld hyn (by decide), ?_⟩⟩⟩
                have vny : v ≠ y := by
                  rintro rfl
                  have := S.inv.len hyn hcy
                  have := S.inv.len hxn hcx
                  omega
                refine ifP_of (fun _ => ?_) (fun _ => ?_)
                · refine S.rot_A fz2 Fo hxn hvx hT2 ?_
                  intro y2 L3 t' hy2 e3 hc3 ne3 R
                  have ey : y2 = y := by omega
                  subst ey
                  refine ⟨rfl, second R ?_ fz2.next (kp3.trans Kp.fp) ?_⟩
                  · rcases R.tt with rfl | rfl
                    · exact vx
                    · exact vt
                  · rw [R.lo v vx vny]
                    exact Nat.le_refl _
                · refine S.rot_A fz2 Fo hv (S.inv.self hv) hT ?_
                  intro y2 L3 t' hy2 e3 hc3 ne3 R
                  have ey : y2 = x := by omega
                  subst ey
                  refine ⟨rfl, second R ?_ fz2.next (kp3.trans Kp.fp) ?_⟩
                  · rw [R.tt2 hT2]; exact vt
                  · rw [R.lx]
                    exact Nat.le_of_lt (S.inv.len hxn hcx)
              · refine S.rot_A fz2 Fo hv (S.inv.self hv) hT ?_
                intro y2 L3 t' hy2 e3 hc3 ne3 R
                have ey : y2 = x := by omega
                subst ey
                refine ⟨rfl, mu_next (I := I32) (k := n - (L3 v).length) ⟨_, L3, pd2, t', R.sp, fz2.next, kp3.trans Kp.fp, by rw [R.lt, hLt], by rw [R.e2, ht2], frs R, rfl⟩ ?_⟩
                rw [hkk2, hk2, R.lx]
                have l1 := S.inv.len hxn hcx
                have l2 := S.inv.short Fo hxn
                omega
            · have hT : Top st2 v := topS_iff.1 (by simpa using hT)
              have e1 : v = t := S.inv.top_of_mem S.tn S.mem hT
              subst e1
              refine ⟨rfl, st2, L2, pd2, fz2, kp3, S.inv, hT, ⟨u, hu, ht, vu, hLt, ht2⟩, (S.cl v hv S.mem).1, (S.cl v hv S.mem).2, hfr⟩

end
end Go.Proofs.YtdcamadeblojdaaGreat

namespace Go.Proofs.YtdcamadeblojdaaGreat
open Go
set_option linter.unusedVariables false

section
variable {n : Nat} {st : St} {L : Nat → List Nat} {par tv pd : Nat → Int}

theorem Inv.pd_cg {pd' : Nat → Int} {v : Nat} {x : Int} (h : w64 (pd' v) = w64 (pd v)) : w64 (x - pd v) = w64 (x - pd' v) := by
  obtain ⟨k, hk⟩ := w64_cg.1 h
  exact w64_of ⟨k, by omega⟩

/-- A child under nothing that is still to be added has its least. -/
theorem Inv.lstZ (I : Inv n st L par tv pd) (F : Fst n par tv) {c : Nat} (hc : c < n) (h : w64 (pd c) = w64 0) : st c 4 = mn tv (L c) := by
  rw [I.lst c hc]
  obtain ⟨k, hk⟩ := w64_cg.1 h
  have r := I.mnRng F c hc
  have : w64 (mn tv (L c) - pd c) = w64 (mn tv (L c)) := w64_of ⟨-k, by omega⟩
  rw [this, w64_in r.1 r.2]

def hang (st : St) (u : Nat) (c : Int) : St := pullS (upd2 st u 1 c) u
theorem hang_eq {st : St} {u : Nat} {c : Int} (w j : Nat) : hang st u c w j = if w = u ∧ j = 4 then least3 (upd2 st u 1 c) u else if w = u ∧ j = 1 then c else st w j := by
  unfold hang pullS
  show upd2 (upd2 st u 1 c) u 4 _ w j = _
  unfold upd2
  rfl

/-- What hangs on the right of a top becomes another way; the old right side is a way of its own. -/
theorem Inv.hang_ (I : Inv n st L par tv pd) (F : Fst n par tv) {u : Nat} {c : Int} (hu : u < n) (ht : Top st u) (a0 : st u 5 = 0) (p0 : pd u = 0)
    (hc : c = -1 ∨ ∃ x : Nat, c = x ∧ x < n ∧ Top st x ∧ st x 2 = u ∧ x ≠ u) :
    Inv n (hang st u c) (fun w => if w = u then LL L (st u 0) ++ u :: LL L c else L w) par tv (fun w => if Ch st u w then 0 else pd w) ∧ Top (hang st u c) u := by
  have e : ∀ w j, j ≠ 4 → hang st u c w j = if w = u ∧ j = 1 then c else st w j := by
    intro w j hj; rw [hang_eq, if_neg (by omega)]
  have cne : c ≠ u := by
    rcases hc with h | ⟨x, h, _, _, _, hx⟩ <;> omega
  have CH : ∀ w y : Nat, w < n → Ch (hang st u c) w y → (w = u ∧ c = y ∧ y < n ∧ st y 2 = u ∧ Top st y ∧ y ≠ u) ∨ Ch st w y := by
    intro w y hw h
    rcases h with h | h
    · rw [e _ _ (by decide), if_neg (by omega)] at h
      exact .inr (.inl h)
    · rw [e _ _ (by decide)] at h
      by_cases hwu : w = u
      · rw [if_pos ⟨hwu, rfl⟩] at h
        rcases hc with hc | ⟨x, hx, hxn, hT, h2, hxu⟩
        · omega
        · have : x = y := by omega
          subst this
          exact .inl ⟨hwu, hx, hxn, h2, hT, hxu⟩
      · rw [if_neg (fun h => hwu h.1)] at h
        exact .inr (.inr h)
  have nchu : ∀ w, w < n → ¬ Ch st w u := fun w hw h => ht w (I.ch w u hw h).2 h
  have pz : ∀ y, Ch st u y → w64 (pd y) = w64 0 := fun y hy => by rw [I.pdc u y hu hy, p0, a0]; rfl
  generalize hpd : (fun w => if Ch st u w then (0 : Int) else pd w) = pd'
  have pdE : ∀ w, w64 (pd' w) = w64 (pd w) := by
    intro w
    rw [← hpd]
    by_cases h : Ch st u w
    · show w64 (if Ch st u w then 0 else pd w) = _
      rw [if_pos h, pz w h]
    · show w64 (if Ch st u w then 0 else pd w) = _
      rw [if_neg h]
  generalize hL : (fun w => if w = u then LL L (st u 0) ++ u :: LL L c else L w) = L'
  have Lu : L' u = LL L (st u 0) ++ u :: LL L c := by rw [← hL]; exact if_pos rfl
  have Lo : ∀ w, w ≠ u → L' w = L w := fun w hw => by rw [← hL]; exact if_neg hw
  have LLo : ∀ x : Int, x ≠ u → LL L' x = LL L x := by
    intro x hx
    unfold LL
    split
    · exact Lo _ (by omega)
    · rfl
  have u0 : st u 0 ≠ u := fun h => I.chNe hu (.inl h) rfl
  have INO : ∀ w, w < n → L' w = LL L' (hang st u c w 0) ++ w :: LL L' (hang st u c w 1) := by
    intro w hw
    rw [e _ _ (by decide), e _ _ (by decide), if_neg (by omega)]
    by_cases hwu : w = u
    · subst hwu
      rw [if_pos ⟨rfl, rfl⟩, Lu, LLo _ u0, LLo _ cne]
    · rw [if_neg (fun h => hwu h.1), Lo w hwu, I.ino w hw, LLo, LLo]
      · exact fun h => nchu w hw (.inr h)
      · exact fun h => nchu w hw (.inl h)
  have topu : Top (hang st u c) u := by
    intro w hw h
    rw [e _ _ (by decide), if_neg (by omega)] at hw
    have hwn := I.upn hu hw
    rcases CH w u hwn h with ⟨_, _, _, _, _, hne⟩ | h
    · exact hne rfl
    · exact nchu w hwn h
  have chu := I.chn u hu
  rw [I.ino u hu] at chu
  have TOP : ∀ w, w < n → w ≠ u → Top (hang st u c) w → (Top st w ∨ st u 1 = w) := by
    intro w hw hwu hT
    by_cases h1 : Top st w
    · exact .inl h1
    · obtain ⟨y, hy, hcy⟩ := not_top h1
      have hyn := I.upn hw hy
      have e2 : hang st u c w 2 = y := by rw [e _ _ (by decide), if_neg (by omega)]; exact hy
      have hn := hT y e2
      rcases hcy with k | k
      · exact absurd (.inl (by rw [e _ _ (by decide), if_neg (by omega)]; exact k)) hn
      · by_cases hyu : y = u
        · subst hyu; exact .inr k
        · exact absurd (.inr (by rw [e _ _ (by decide), if_neg (fun h => hyu h.1)]; exact k)) hn
  refine ⟨⟨?_, ?_, INO, ?_, ?_, ?_, ?_, ?_, ?_⟩, topu⟩
  · intro w y hw h
    rw [e _ _ (by decide), if_neg (by omega)]
    rcases CH w y hw h with ⟨rfl, _, h1, h2, _⟩ | h
    · exact ⟨h1, h2⟩
    · exact I.ch w y hw h
  · intro w hw
    rw [e _ _ (by decide), if_neg (by omega)]
    exact I.up w hw
  · intro w hw
    by_cases hwu : w = u
    · subst hwu
      rw [Lu]
      have h1 : Chn par (LL L (st w 0) ++ [w]) := by
        rw [show LL L (st w 0) ++ w :: LL L (st w 1) = (LL L (st w 0) ++ [w]) ++ LL L (st w 1) by simp] at chu
        exact (Chn.append.1 chu).1
      rw [show LL L (st w 0) ++ w :: LL L c = (LL L (st w 0) ++ [w]) ++ LL L c by simp]
      refine Chn.append.2 ⟨h1, ?_, ?_⟩
      · rcases hc with rfl | ⟨x, rfl, hx, _⟩
        · trivial
        · rw [LL_nat]; exact I.chn x hx
      · intro a b ha hb
        simp at ha
        subst ha
        rcases hc with rfl | ⟨x, rfl, hx, hT, h2, _⟩
        · cases hb
        · rw [LL_nat] at hb
          obtain ⟨b', l, e1, e2⟩ := I.hd x hx hT
          rw [e1] at hb
          cases hb
          rw [e2, h2]
    · rw [Lo w hwu]; exact I.chn w hw
  · intro w hw hT
    rw [e _ _ (by decide), if_neg (by omega)]
    by_cases hwu : w = u
    · subst hwu
      obtain ⟨a, l, e1, e2⟩ := I.hd w hw ht
      rw [I.ino w hw] at e1
      rw [Lu]
      cases h0 : LL L (st w 0) with
      | nil =>
        rw [h0] at e1
        cases e1
        exact ⟨w, _, rfl, e2⟩
      | cons b l0 =>
        rw [h0] at e1
        cases e1
        exact ⟨a, _, rfl, e2⟩
    · rw [Lo w hwu]
      rcases TOP w hw hwu hT with h | h
      · exact I.hd w hw h
      · have hcw : Ch st u w := .inr h
        have w2 := (I.ch u w hu hcw).2
        rw [show LL L (st u 0) ++ u :: LL L (st u 1) = (LL L (st u 0) ++ [u]) ++ LL L (st u 1) by simp] at chu
        have := (Chn.append.1 chu).2.2
        rw [h, LL_nat] at this
        cases hl : L w with
        | nil => have := I.self hw; rw [hl] at this; cases this
        | cons b l =>
          refine ⟨b, l, rfl, ?_⟩
          rw [w2]
          exact this u b (by simp) (by rw [hl]; rfl)
  · intro w hw hT
    rw [← hpd]
    show (if Ch st u w then (0 : Int) else pd w) = 0
    by_cases h : Ch st u w
    · rw [if_pos h]
    · rw [if_neg h]
      by_cases hwu : w = u
      · subst hwu; exact p0
      · rcases TOP w hw hwu hT with h1 | h1
        · exact I.pdt w hw h1
        · exact absurd (.inr h1) h
  · intro w y hw h
    rw [e _ _ (by decide), if_neg (by omega), pdE]
    have pw : w64 (pd' w + st w 5) = w64 (pd w + st w 5) := by
      obtain ⟨k, hk⟩ := w64_cg.1 (pdE w)
      exact w64_of ⟨k, by omega⟩
    rw [pw]
    rcases CH w y hw h with ⟨rfl, _, h1, h2, h3, _⟩ | h
    · rw [p0, a0, I.pdt y h1 h3]; rfl
    · exact I.pdc w y hw h
  · intro w hw
    rw [e _ _ (by decide), if_neg (by omega), I.val w hw]
    exact Inv.pd_cg (pdE w)
  · intro w hw
    rw [hang_eq]
    by_cases hwu : w = u
    · subst hwu
      rw [if_pos ⟨rfl, rfl⟩]
      have rng : ∀ a ∈ L' w, a < n := by
        intro a ha
        rw [Lu] at ha
        simp only [List.mem_append, List.mem_cons] at ha
        have key : ∀ z : Int, z < 0 ∨ (∃ y : Nat, z = y ∧ y < n) → a ∈ LL L z → a < n := by
          rintro z (h | ⟨y, rfl, hy⟩) hz
          · rw [LL_neg h] at hz; cases hz
          · rw [LL_nat] at hz; exact I.lt y hy a hz
        rcases ha with h | h | h
        · exact key _ (pt_of I hw (by decide)) h
        · omega
        · refine key _ ?_ h
          rcases hc with h | ⟨x, h, hx, _⟩
          · exact .inl (by omega)
          · exact .inr ⟨x, h, hx⟩
      have e3 : least3 (upd2 st w 1 c) w = mn tv (L' w) := by
        have q : ∀ x j, upd2 st w 1 c x j = if x = w ∧ j = 1 then c else st x j := fun _ _ => rfl
        refine least3_ok ?_ ?_ ?_ (fun a ha => (F.rng a (rng a ha)).2)
        · rw [q, if_neg (by omega), I.val w hw, p0, Int.sub_zero, w64_in (F.rng w hw).1 (F.rng w hw).2]
        · intro y hy
          rw [q, if_neg (by omega)]
          have hy' : y < n ∧ w64 (pd y) = w64 0 ∧ y ≠ w := by
            rcases hy with h | h
            · rw [q, if_neg (by omega)] at h
              exact ⟨(I.ch w y hw (.inl h)).1, pz y (.inl h), I.chNe hw (.inl h)⟩
            · rw [q, if_pos ⟨rfl, rfl⟩] at h
              rcases hc with hc | ⟨x, hx, hxn, hT, h2, hxu⟩
              · omega
              · have : x = y := by omega
                subst this
                exact ⟨hxn, by rw [I.pdt x hxn hT], hxu⟩
          rw [I.lstZ F hy'.1 hy'.2.1, Lo y hy'.2.2]
        · rw [q, q, if_neg (by omega), if_pos ⟨rfl, rfl⟩, Lu, LLo _ u0, LLo _ cne]
      rw [e3]
      have pw : pd' w = 0 := by
        rw [← hpd]
        show (if Ch st w w then (0 : Int) else pd w) = 0
        rw [if_neg (fun h => I.chNe hw h rfl)]; exact p0
      rw [pw, Int.sub_zero, w64_in (mn_low _ fun a ha => (F.rng a (rng a ha)).1) (mn_high (a := w) (by rw [Lu]; simp) (F.rng w hw).2)]
    · rw [if_neg (fun h => hwu h.1), if_neg (by omega), Lo w hwu, I.lst w hw]
      exact Inv.pd_cg (pdE w)

/-- The depth of a way's first node is the least. -/
theorem Inv.head_d (I : Inv n st L par tv pd) {d : Nat → Nat} (hd : ∀ v u : Nat, v < n → par v = u → d u < d v) {v a : Nat} {l : List Nat} (hv : v < n) (hl : L v = a :: l) :
    ∀ x ∈ L v, d a ≤ d x := by
  have := Chn.pair hd (I.chn v hv) (I.lt v hv)
  rw [hl] at this ⊢
  intro x hx
  rcases List.mem_cons.1 hx with rfl | hx
  · exact Nat.le_refl _
  · exact Nat.le_of_lt ((List.pairwise_cons.1 this).1 x hx)

end
end Go.Proofs.YtdcamadeblojdaaGreat

namespace Go.Proofs.YtdcamadeblojdaaGreat
open Go
set_option linter.unusedVariables false

section
variable {bf bn n e : Nat} {h : H} {st : St} {L : Nat → List Nat} {par tv pd : Nat → Int}

/-- The way to v is one splay tree, v on top, nothing below it. -/
structure AccR (n : Nat) (st : St) (L : Nat → List Nat) (par tv pd : Nat → Int) (v : Nat) : Prop where
  inv : Inv n st L par tv pd
  top : Top st v
  up : st v 2 = -1
  rt : st v 1 < 0
  last : (L v).getLast? = some v
  a0 : st v 5 = 0
  p0 : pd v = 0

theorem LL_nil_of (I : Inv n st L par tv pd) {v k : Nat} (hv : v < n) (hk : k < 2) (h : LL L (st v k) = []) : st v k < 0 := by
  rcases pt_of I hv hk with h1 | ⟨w, h1, hw⟩
  · exact h1
  · rw [h1, LL_nat] at h
    have := I.self hw
    rw [h] at this; cases this

theorem head_neg (I : Inv n st L par tv pd) (Fo : Fst n par tv) {v : Nat} (hv : v < n) (hT : Top st v) (h : st v 2 < 0) : st v 2 = -1 := by
  obtain ⟨a, l, e1, e2⟩ := I.hd v hv hT
  have ha : a < n := I.lt v hv a (by rw [e1]; simp)
  rcases Fo.pt a ha with h1 | ⟨u, h1, _⟩ <;> omega

theorem last_rt (I : Inv n st L par tv pd) (Fo : Fst n par tv) {v : Nat} (hv : v < n) (h : (L v).getLast? = some v) : st v 1 < 0 := by
  refine LL_nil_of I hv (by decide) ?_
  have nd := I.nodup Fo hv
  rw [I.ino v hv] at h nd
  cases hl : LL L (st v 1) with
  | nil => rfl
  | cons b l =>
    rw [hl] at h nd
    have hm : v ∈ b :: l := by
      rw [List.getLast?_append] at h
      have : (v :: b :: l).getLast? = (b :: l).getLast? := by simp [List.getLast?_cons_cons]
      rw [this] at h
      cases hg : (b :: l).getLast? with
      | none => simp at hg
      | some z =>
        rw [hg] at h
        simp at h
        subst h
        exact List.mem_of_getLast? hg
    have := (List.nodup_append.1 nd).2.1
    exact absurd hm (List.nodup_cons.1 this).1

theorem first_lf (I : Inv n st L par tv pd) (Fo : Fst n par tv) {v : Nat} (hv : v < n) (h : (L v).head? = some v) : st v 0 < 0 := by
  refine LL_nil_of I hv (by decide) ?_
  have nd := I.nodup Fo hv
  rw [I.ino v hv] at h nd
  cases hl : LL L (st v 0) with
  | nil => rfl
  | cons b l =>
    rw [hl] at h nd
    simp at h
    subst h
    simp at nd

theorem access_T (f : Fz h bf bn e n st) (I : Inv n st L par tv pd) (Fo : Fst n par tv) (hn : n ≤ 1024) {v : Nat} (hv : v < n) :
    T Tryz.prog F.links_Forest_access [fo bf, vi v] h fun r h' => r = .ret unit0 ∧
      ∃ st' L' pd', Fz h' bf bn e n st' ∧ Kp bn h h' ∧ AccR n st' L' par tv pd' v := by
  refine E_links_Forest_access ?_
  unfold B_links_Forest_access
  obtain ⟨d, hd⟩ := Fo.acy
  let I1 : (Int × Int × Unit) → H → Nat → Prop := fun s g k =>
    ∃ st1 L1 pd1, Fz g bf bn e n st1 ∧ Kp bn h g ∧ Inv n st1 L1 par tv pd1 ∧
      ((s.1 = -1 ∧ s.2.1 = v ∧ k = d v + 1) ∨ ∃ x : Nat, s.1 = x ∧ x < n ∧ Top st1 x ∧ st1 x 2 = s.2.1 ∧ (L1 x).getLast? = some v ∧
        ((s.2.1 < 0 ∧ k = 0) ∨ ∃ u : Nat, s.2.1 = u ∧ u < n ∧ k = d u + 1))
  refine ⟨fun s g => ∃ k, I1 s g k, rk I1, rk_wf I1, ?_, ?_⟩
  · exact ⟨_, st, L, pd, f, Kp.refl, I, .inl ⟨rfl, rfl, rfl⟩⟩
  · intro last u' g hI
    obtain ⟨st1, L1, pd1, fz, kp, J, hc⟩ := mu_spec hI
    generalize hkk : mu I1 ((last, u', ()), g) = k at *
    refine ifP_of (fun h0 => ?_) (fun h0 => ?_)
    · have h0 := of_decide_eq_true h0
      obtain ⟨u, hu', hu, hk⟩ : ∃ u : Nat, u' = u ∧ u < n ∧ k = d u + 1 := by
        rcases hc with ⟨_, h1, h2⟩ | ⟨x, _, _, _, _, _, h1 | h1⟩
        · exact ⟨v, h1, hv, h2⟩
        · have := h1.1; simp only [] at this; omega
        · exact h1
      subst hu'
      refine (splay_T fz J Fo hn hu).mono ?_
      rintro _ g1 ⟨rfl, st2, L2, pd2, fz2, kp2, R⟩
      refine ⟨rfl, nd fz2.hd hu ⟨fz2.wr hu (by decide), ?_⟩⟩
      rw [fz2.set hu (by decide)]
      -- what hangs on the right now
      have hcase : last = -1 ∧ u = v ∨ ∃ x : Nat, last = x ∧ x < n ∧ Top st2 x ∧ st2 x 2 = u ∧ x ≠ u ∧ (L2 x).getLast? = some v := by
        rcases hc with ⟨h1, h2, _⟩ | ⟨x, h1, hx, hT, h2, h3, _⟩
        · simp only [] at h1 h2
          exact .inl ⟨h1, by omega⟩
        · simp only [] at h1 h2
          right
          obtain ⟨a, l, e1, e2⟩ := J.hd x hx hT
          have ha : a < n := J.lt x hx a (by rw [e1]; simp)
          have hda := hd a u ha (by rw [e2, h2])
          have hux : u ∉ L1 x := fun hm => by
            have := J.head_d hd hx e1 u hm
            omega
          obtain ⟨b1, b2, b3⟩ := R.fr x hx hT hux
          refine ⟨x, h1, hx, b1, by rw [b2, h2], ?_, by rw [b3]; exact h3⟩
          rintro rfl
          exact hux (J.self hx)
      have hcc : last = -1 ∨ ∃ x : Nat, last = x ∧ x < n ∧ Top st2 x ∧ st2 x 2 = u ∧ x ≠ u := by
        rcases hcase with h | ⟨x, a1, a2, a3, a4, a5, _⟩
        · exact .inl h.1
        · exact .inr ⟨x, a1, a2, a3, a4, a5⟩
      have pcl : Pc n u last := by
        rcases hcc with h | ⟨x, a1, a2, a3, a4, a5⟩
        · exact .inl (by omega)
        · exact .inr ⟨x, a1, a2, a5⟩
      refine (pull_A fz2.next hu ?_ ?_).mono ?_
      · have : upd2 st2 u 1 last u 0 = st2 u 0 := by unfold upd2; rw [if_neg (by omega)]
        rw [this]; exact pc_of R.inv hu (by decide)
      · have : upd2 st2 u 1 last u 1 = last := by unfold upd2; rw [if_pos ⟨rfl, rfl⟩]
        rw [this]; exact pcl
      rintro _ _ ⟨rfl, rfl⟩
      rw [fp_fp]
      show _ ∧ _
      refine ⟨rfl, ?_⟩
      have hg : pullS (upd2 st2 u 1 last) u = hang st2 u last := rfl
      rw [hg]
      obtain ⟨J3, T3⟩ := R.inv.hang_ Fo hu R.top R.a0 R.p0 hcc
      generalize hL3 : (fun w => if w = u then LL L2 (st2 u 0) ++ u :: LL L2 last else L2 w) = L3 at J3
      generalize (fun w => if Ch st2 u w then (0 : Int) else pd2 w) = pd3 at J3
      have fz3 : Fz (fp g1 bn e n 6 (hang st2 u last)) bf bn e n (hang st2 u last) := fz2.next
      refine nd fz3.hd hu ⟨_, fz3.ld hu (by decide), ?_⟩
      have e2 : hang st2 u last u 2 = st2 u 2 := by rw [hang_eq, if_neg (by omega), if_neg (by omega)]
      have hlast : (L3 u).getLast? = some v := by
        rw [← hL3]
        show (if u = u then LL L2 (st2 u 0) ++ u :: LL L2 last else L2 u).getLast? = some v
        rw [if_pos rfl]
        rcases hcase with ⟨rfl, rfl⟩ | ⟨x, rfl, _, _, _, _, h6⟩
        · simp [LL_neg]
        · rw [LL_nat, List.getLast?_append, List.getLast?_cons, h6]; rfl
      have upn := J3.up u hu
      refine mu_next (I := I1) (k := if 0 ≤ hang st2 u last u 2 then d (hang st2 u last u 2).toNat + 1 else 0)
        ⟨_, L3, pd3, fz3, (kp.trans kp2).trans Kp.fp, J3, .inr ⟨u, rfl, hu, T3, rfl, hlast, ?_⟩⟩ ?_
      · rcases upn with h1 | ⟨y, h1, hy⟩
        · exact .inl ⟨h1, if_neg (by omega)⟩
        · right
          refine ⟨y, h1, hy, ?_⟩
          show (if 0 ≤ hang st2 u last u 2 then d (hang st2 u last u 2).toNat + 1 else 0) = _
          rw [h1, if_pos (by omega), Int.toNat_natCast]
      · rw [hkk, hk]
        rcases upn with h1 | ⟨y, h1, hy⟩
        · rw [if_neg (by omega)]; omega
        · rw [h1, if_pos (by omega), Int.toNat_natCast]
          obtain ⟨a, l, e3, e4⟩ := J3.hd u hu T3
          have ha : a < n := J3.lt u hu a (by rw [e3]; simp)
          have h2 := hd a y ha (by rw [e4]; exact h1)
          have h3 := J3.head_d hd hu e3 u (J3.self hu)
          omega
    · have h0 := of_decide_eq_false h0
      obtain ⟨x, hx, hT, h2, h3⟩ : ∃ x : Nat, x < n ∧ Top st1 x ∧ st1 x 2 < 0 ∧ (L1 x).getLast? = some v := by
        rcases hc with ⟨_, h1, _⟩ | ⟨x, _, hx, hT, h2, h3, _⟩
        · simp only [] at h1; omega
        · simp only [] at h2
          exact ⟨x, hx, hT, by omega, h3⟩
      refine (splay_T fz J Fo hn hv).mono ?_
      rintro _ g1 ⟨rfl, st2, L2, pd2, fz2, kp2, R⟩
      refine ⟨rfl, rfl, st2, L2, pd2, fz2, kp.trans kp2, ?_⟩
      obtain ⟨t, ht, hTt, hvt, hL, hup⟩ := R.way
      have hvx : v ∈ L1 x := List.mem_of_getLast? h3
      have etx : t = x := by
        rcases J.cmp hx t ht v hvt hvx with h | h
        · exact J.top_of_mem hx h hTt
        · exact (J.top_of_mem ht h hT).symm
      subst etx
      have hl : (L2 v).getLast? = some v := by rw [hL]; exact h3
      have hn2 : st2 v 2 < 0 := by rw [hup]; exact h2
      exact ⟨R.inv, R.top, head_neg R.inv Fo hv R.top hn2, last_rt R.inv Fo hv hl, hl, R.a0, R.p0⟩

/-- The root r of v's tree on top of the way to v. -/
structure RootR (n : Nat) (st : St) (L : Nat → List Nat) (par tv pd : Nat → Int) (r v : Nat) : Prop where
  inv : Inv n st L par tv pd
  rn : r < n
  top : Top st r
  up : st r 2 = -1
  lf : st r 0 < 0
  head : (L r).head? = some r
  last : (L r).getLast? = some v
  a0 : st r 5 = 0
  p0 : pd r = 0
  root : par r = -1

theorem root_T (f : Fz h bf bn e n st) (I : Inv n st L par tv pd) (Fo : Fst n par tv) (hn : n ≤ 1024) {v : Nat} (hv : v < n) :
    T Tryz.prog F.links_Forest_root [fo bf, vi v] h fun r h' => ∃ x : Nat, r = .ret (vi x) ∧
      ∃ st' L' pd', Fz h' bf bn e n st' ∧ Kp bn h h' ∧ RootR n st' L' par tv pd' x v := by
  refine E_links_Forest_root ?_
  unfold B_links_Forest_root
  refine (access_T f I Fo hn hv).mono ?_
  rintro _ g ⟨rfl, st1, L1, pd1, fz1, kp1, A⟩
  refine ⟨rfl, ?_⟩
  let I3 : (Int × Unit) → H → Nat → Prop := fun s g2 k =>
    ∃ st2 pd2, ∃ w : Nat, s.1 = w ∧ w < n ∧ Fz g2 bf bn e n st2 ∧ Kp bn h g2 ∧ Inv n st2 L1 par tv pd2 ∧ (∀ x j, j < 3 → st2 x j = st1 x j) ∧
      w ∈ L1 v ∧ (L1 w).head? = (L1 v).head? ∧ k = (L1 w).length
  refine ⟨fun s g2 => ∃ k, I3 s g2 k, rk I3, rk_wf I3, ?_, ?_⟩
  · exact ⟨_, st1, pd1, v, rfl, hv, fz1, kp1, A.inv, fun _ _ _ => rfl, A.inv.self hv, rfl, rfl⟩
  · intro w' g2 hI
    obtain ⟨st2, pd2, w, hw', hw, fz2, kp2, J, lk, hwv, hh, hk⟩ := mu_spec hI
    generalize hkk : mu I3 ((w', ()), g2) = k at *
    change w' = (w : Int) at hw'
    subst hw'
    refine (push_A fz2 hw (pt_of J hw (by decide)) (pt_of J hw (by decide))).mono ?_
    rintro _ _ ⟨rfl, rfl⟩
    refine ⟨rfl, ?_⟩
    have J3 := J.push Fo hw
    have fz3 : Fz (fp g2 bn e n 6 (pushS st2 w)) bf bn e n (pushS st2 w) := fz2.next
    have lk3 : ∀ x j, j < 3 → pushS st2 w x j = st1 x j := fun x j hj => by rw [pushS_link J Fo hw x hj, lk x j hj]
    refine nd fz3.hd hw ⟨_, fz3.ld hw (by decide), ?_⟩
    refine ifP_of (fun h0 => ?_) (fun h0 => ?_)
    · have h0 := of_decide_eq_true h0
      refine (splay_T fz3 J3 Fo hn hw).mono ?_
      rintro _ g4 ⟨rfl, st4, L4, pd4, fz4, kp4, R⟩
      refine ⟨rfl, w, rfl, st4, L4, pd4, fz4, (kp2.trans Kp.fp).trans kp4, ?_⟩
      obtain ⟨t, ht, hTt, hwt, hL, hup⟩ := R.way
      have hTv : Top (pushS st2 w) v := (Top.congr lk3).2 A.top
      have etv : t = v := by
        rcases J3.cmp hv t ht w hwt hwv with h | h
        · exact J3.top_of_mem hv h hTt
        · exact (J3.top_of_mem ht h hTv).symm
      subst etv
      have hhead : (L4 w).head? = some w := by
        rw [hL, ← hh, J3.ino w hw, LL_neg h0]; rfl
      have up4 : st4 w 2 = -1 := by rw [hup, lk3 _ _ (by decide)]; exact A.up
      refine ⟨R.inv, hw, R.top, up4, first_lf R.inv Fo hw hhead, hhead, by rw [hL]; exact A.last, R.a0, R.p0, ?_⟩
      obtain ⟨a, l, e1, e2⟩ := R.inv.hd w hw R.top
      rw [e1] at hhead
      simp at hhead
      subst hhead
      rw [e2, up4]
    · have h0 := of_decide_eq_false h0
      refine nd fz3.hd hw ⟨_, fz3.ld hw (by decide), ?_⟩
      obtain ⟨c, hc⟩ : ∃ c : Nat, pushS st2 w w 0 = c := ⟨(pushS st2 w w 0).toNat, by omega⟩
      have hcc : Ch (pushS st2 w) w c := .inl hc
      have hcn := (J3.ch w c hw hcc).1
      refine mu_next (I := I3) (k := (L1 c).length) ⟨_, _, c, hc, hcn, fz3, kp2.trans Kp.fp, J3, lk3, J3.mtrans v hv w hwv c (J3.sub hw hcc (J3.self hcn)), ?_, rfl⟩ ?_
      · rw [← hh]
        conv => rhs; rw [J3.ino w hw, hc, LL_nat]
        cases hl : L1 c with
        | nil => have := J3.self hcn; rw [hl] at this; cases this
        | cons a l => rfl
      · rw [hkk, hk]
        exact J3.len hw hcc

end
end Go.Proofs.YtdcamadeblojdaaGreat

namespace Go.Proofs.YtdcamadeblojdaaGreat
open Go
set_option linter.unusedVariables false

/-- The nodes from a node up to its root. -/
inductive UpW (par : Nat → Int) : Nat → List Nat → Prop
  | root {v : Nat} : par v = -1 → UpW par v [v]
  | step {v u : Nat} {l : List Nat} : par v = u → UpW par u l → UpW par v (v :: l)

theorem UpW.uniq {par : Nat → Int} {v : Nat} {l l' : List Nat} (a : UpW par v l) (b : UpW par v l') : l = l' := by
  induction a generalizing l' with
  | root h =>
    cases b with
    | root _ => rfl
    | step k _ => omega
  | step h _ ih =>
    cases b with
    | root k => omega
    | step k b2 =>
      have e := h.symm.trans k
      have e := Int.ofNat_inj.1 e
      subst e
      rw [ih b2]
theorem UpW.last {par : Nat → Int} {v : Nat} {l : List Nat} (a : UpW par v l) : ∃ r, l.getLast? = some r ∧ par r = -1 := by
  induction a with
  | root h => exact ⟨_, rfl, h⟩
  | @step v u l h a ih =>
    obtain ⟨r, h1, h2⟩ := ih
    refine ⟨r, ?_, h2⟩
    rw [List.getLast?_cons, h1]; rfl
theorem UpW.head {par : Nat → Int} {v : Nat} {l : List Nat} (a : UpW par v l) : ∃ m, l = v :: m := by
  cases a <;> exact ⟨_, rfl⟩
theorem UpW.of_chn {par : Nat → Int} : ∀ {l : List Nat} {a : Nat} {m : List Nat}, Chn par (a :: l) → UpW par a m → ∀ v, (a :: l).getLast? = some v → UpW par v (l.reverse ++ m) := by
  intro l
  induction l with
  | nil => intro a m _ h v hv; cases hv; exact h
  | cons b l ih =>
    intro a m hc h v hv
    have := ih (m := b :: m) hc.2 (.step hc.1 h) v (by rw [List.getLast?_cons_cons] at hv; exact hv)
    simpa using this
theorem UpW.of_way {par : Nat → Int} {l : List Nat} {r v : Nat} (hc : Chn par l) (hh : l.head? = some r) (hl : l.getLast? = some v) (hr : par r = -1) : UpW par v l.reverse := by
  cases l with
  | nil => cases hh
  | cons a l =>
    cases hh
    simpa using UpW.of_chn hc (.root hr) v hl
theorem UpW.exists {n : Nat} {par tv : Nat → Int} (F : Fst n par tv) : ∀ v, v < n → ∃ l, UpW par v l ∧ ∀ x ∈ l, x < n := by
  obtain ⟨d, hd⟩ := F.acy
  have : ∀ k v, v < n → d v ≤ k → ∃ l, UpW par v l ∧ ∀ x ∈ l, x < n := by
    intro k
    induction k with
    | zero =>
      intro v hv hk
      rcases F.pt v hv with h | ⟨u, h, hu⟩
      · exact ⟨_, .root h, by simpa using hv⟩
      · have := hd v u hv h; omega
    | succ k ih =>
      intro v hv hk
      rcases F.pt v hv with h | ⟨u, h, hu⟩
      · exact ⟨_, .root h, by simpa using hv⟩
      · have := hd v u hv h
        obtain ⟨l, h1, h2⟩ := ih u hu (by omega)
        refine ⟨_, .step h h1, ?_⟩
        intro x hx
        rcases List.mem_cons.1 hx with rfl | hx
        · exact hv
        · exact h2 x hx
  exact fun v hv => this _ v hv (Nat.le_refl _)

/-- r is the root of v's tree. -/
def Rt (par : Nat → Int) (v r : Nat) : Prop := ∃ l, UpW par v l ∧ l.getLast? = some r
theorem Rt.uniq {par : Nat → Int} {v r r' : Nat} (a : Rt par v r) (b : Rt par v r') : r = r' := by
  obtain ⟨l, h1, h2⟩ := a
  obtain ⟨l', h3, h4⟩ := b
  rw [h1.uniq h3, h4] at h2
  cases h2; rfl
theorem Rt.root {par : Nat → Int} {v r : Nat} (a : Rt par v r) : par r = -1 := by
  obtain ⟨l, h1, h2⟩ := a
  obtain ⟨r', h3, h4⟩ := h1.last
  rw [h2] at h3; cases h3; exact h4
theorem Rt.self {par : Nat → Int} {v : Nat} (h : par v = -1) : Rt par v v := ⟨_, .root h, rfl⟩
theorem Rt.self_iff {par : Nat → Int} {v r : Nat} (a : Rt par v r) : r = v ↔ par v = -1 :=
  ⟨fun h => by subst h; exact a.root, fun h => a.uniq (Rt.self h)⟩
theorem Rt.up {par : Nat → Int} {v u r : Nat} (h : par v = u) : Rt par u r → Rt par v r := by
  rintro ⟨l, h1, h2⟩
  exact ⟨_, .step h h1, by rw [List.getLast?_cons, h2]; rfl⟩

section
variable {n : Nat} {st : St} {L : Nat → List Nat} {par tv pd : Nat → Int}

theorem Chn.congr {par par' : Nat → Int} : ∀ {l : List Nat}, (∀ x ∈ l, par' x = par x) → Chn par l → Chn par' l := by
  intro l
  induction l with
  | nil => intro _ _; trivial
  | cons a l ih =>
    intro h hc
    have ih := ih (fun x hx => h x (List.mem_cons_of_mem _ hx)) hc.tail
    cases l with
    | nil => trivial
    | cons b l => exact ⟨by rw [h b (by simp)]; exact hc.1, ih⟩
theorem mn_congr {tv tv' : Nat → Int} : ∀ {l : List Nat}, (∀ x ∈ l, tv' x = tv x) → mn tv' l = mn tv l := by
  intro l
  induction l with
  | nil => intro _; rfl
  | cons a l ih =>
    intro h
    simp only [mn]
    rw [h a (by simp), ih (fun x hx => h x (List.mem_cons_of_mem _ hx))]

end

section
variable {n : Nat} {st : St} {L : Nat → List Nat} {par tv pd : Nat → Int}

theorem AccR.upw {v : Nat} (A : AccR n st L par tv pd v) (hv : v < n) : UpW par v (L v).reverse := by
  obtain ⟨a, l, e1, e2⟩ := A.inv.hd v hv A.top
  exact UpW.of_way (A.inv.chn v hv) (by rw [e1]; rfl) A.last (by rw [e2, A.up])
theorem AccR.alone {v : Nat} (A : AccR n st L par tv pd v) (hv : v < n) (hp : par v = -1) : L v = [v] := by
  have := (A.upw hv).uniq (.root hp)
  have h2 := congrArg List.reverse this
  simpa using h2
theorem RootR.upw {v r : Nat} (A : RootR n st L par tv pd r v) : UpW par v (L r).reverse :=
  UpW.of_way (A.inv.chn r A.rn) A.head A.last A.root
theorem RootR.rt {v r : Nat} (A : RootR n st L par tv pd r v) : Rt par v r :=
  ⟨_, A.upw, by rw [List.getLast?_reverse]; exact A.head⟩

theorem Inv.nmem (I : Inv n st L par tv pd) {v u x : Nat} (ht : Top st v) (hu : u < n) (hne : u ≠ v) (hx : x ∈ L u) : x ≠ v := by
  rintro rfl
  exact hne (I.top_of_mem hu hx ht).symm

/-- v hangs itself under w. -/
theorem AccR.link {v w : Nat} {x : Int} (A : AccR n st L par tv pd v) (F : Fst n par tv) (hv : v < n) (hw : w < n) (hp : par v = -1)
    (hx : -9223372036854775808 ≤ x ∧ x < 9223372036854775808) :
    Inv n (upd2 (pullS (upd2 st v 3 x) v) v 2 w) L (upd par v w) (upd tv v x) pd := by
  have I := A.inv
  have lv := A.alone hv hp
  have l0 : st v 0 < 0 := first_lf I F hv (by rw [lv]; rfl)
  have l1 : st v 1 < 0 := A.rt
  have l3 : least3 (upd2 st v 3 x) v = x := by
    rw [least3_eq]
    have e0 : upd2 st v 3 x v 0 = st v 0 := if_neg (by omega)
    have e1 : upd2 st v 3 x v 1 = st v 1 := if_neg (by omega)
    have e3 : upd2 st v 3 x v 3 = x := if_pos ⟨rfl, rfl⟩
    rw [e0, e1, e3]
    unfold lstep
    rw [if_neg (by omega), if_neg (by omega)]
  generalize hst : upd2 (pullS (upd2 st v 3 x) v) v 2 w = st'
  have E : ∀ u j, st' u j = if u = v then (if j = 2 then (w : Int) else if j = 4 then x else if j = 3 then x else st v j) else st u j := by
    intro u j
    rw [← hst]
    unfold pullS
    rw [l3]
    unfold upd2
    by_cases hu : u = v
    · subst hu; simp
    · simp [hu]
  have ch : ∀ u y, Ch st' u y ↔ Ch st u y := by
    intro u y
    unfold Ch
    rw [E u 0, E u 1]
    by_cases hu : u = v
    · subst hu; simp
    · simp [hu]
  have nch : ∀ u, u < n → ¬ Ch st u v := fun u hu h => A.top u (I.ch u v hu h).2 h
  have tv' : ∀ u, u ≠ v → upd tv v x u = tv u := fun u hu => if_neg hu
  have par' : ∀ u, u ≠ v → upd par v w u = par u := fun u hu => if_neg hu
  have tvv : upd tv v x v = x := if_pos rfl
  have parv : upd par v w v = w := if_pos rfl
  refine ⟨?_, ?_, ?_, ?_, ?_, ?_, ?_, ?_, ?_⟩
  · intro u y hu h
    have h := (ch u y).1 h
    have hy : y ≠ v := by rintro rfl; exact nch u hu h
    rw [E, if_neg hy]
    exact I.ch u y hu h
  · intro u hu
    rw [E]
    by_cases h : u = v
    · subst h
      rw [if_pos rfl, if_pos rfl]
      exact .inr ⟨w, rfl, hw⟩
    · rw [if_neg h]; exact I.up u hu
  · intro u hu
    rw [E, E]
    by_cases h : u = v
    · subst h
      simp only [if_true]
      exact I.ino u hu
    · rw [if_neg h, if_neg h]; exact I.ino u hu
  · intro u hu
    by_cases h : u = v
    · subst h; rw [lv]; trivial
    · exact (I.chn u hu).congr fun y hy => par' y (I.nmem A.top hu h hy)
  · intro u hu hT
    by_cases h : u = v
    · subst h
      refine ⟨u, [], lv, ?_⟩
      rw [parv, E, if_pos rfl, if_pos rfl]
    · have hT' : Top st u := by
        intro y hy hc
        exact hT y (by rw [E, if_neg h]; exact hy) ((ch y u).2 hc)
      obtain ⟨a, l, e1, e2⟩ := I.hd u hu hT'
      refine ⟨a, l, e1, ?_⟩
      rw [par' a (I.nmem A.top hu h (by rw [e1]; simp)), E, if_neg h, e2]
  · intro u hu hT
    by_cases h : u = v
    · subst h; exact A.p0
    · refine I.pdt u hu ?_
      intro y hy hc
      exact hT y (by rw [E, if_neg h]; exact hy) ((ch y u).2 hc)
  · intro u y hu h
    have h := (ch u y).1 h
    rw [I.pdc u y hu h, E]
    by_cases h2 : u = v
    · subst h2; simp
    · rw [if_neg h2]
  · intro u hu
    rw [E]
    by_cases h : u = v
    · subst h
      rw [tvv, A.p0, Int.sub_zero, w64_in hx.1 hx.2]
      simp
    · rw [if_neg h, tv' u h]; exact I.val u hu
  · intro u hu
    rw [E]
    by_cases h : u = v
    · subst h
      rw [lv, A.p0, Int.sub_zero]
      simp only [mn, tvv]
      rw [w64_in (by omega) (by omega)]
      simp; omega
    · rw [if_neg h, mn_congr fun y hy => tv' y (I.nmem A.top hu h hy)]
      exact I.lst u hu

theorem Fst.link {v w : Nat} {x : Int} (F : Fst n par tv) (hv : v < n) (hw : w < n) (hp : par v = -1) (hr : ¬ Rt par w v)
    (hx : -9223372036854775808 ≤ x ∧ x < 9223372036854775808) : Fst n (upd par v w) (upd tv v x) := by
  obtain ⟨d, hd⟩ := F.acy
  refine ⟨?_, ?_, ?_, ?_⟩
  · intro u hu
    unfold upd
    split
    · exact .inr ⟨w, rfl, hw⟩
    · exact F.pt u hu
  · have : ∀ u, Decidable (Rt par u v) := fun u => Classical.propDecidable _
    refine ⟨fun u => if Rt par u v then d u + d w + 1 else d u, ?_⟩
    intro y u hy h
    show (if Rt par u v then d u + d w + 1 else d u) < (if Rt par y v then d y + d w + 1 else d y)
    unfold upd at h
    by_cases e : y = v
    · subst e
      rw [if_pos rfl] at h
      have : u = w := by omega
      subst this
      rw [if_neg hr, if_pos (Rt.self hp)]
      omega
    · rw [if_neg e] at h
      have := hd y u hy h
      by_cases k : Rt par u v
      · rw [if_pos k, if_pos (Rt.up h k)]; omega
      · rw [if_neg k]
        split <;> omega
  · intro u hu
    unfold upd
    split
    · exact hx
    · exact F.rng u hu
  · intro u hu h
    unfold upd at h ⊢
    by_cases e : u = v
    · rw [if_pos e] at h; omega
    · rw [if_neg e] at h ⊢
      exact F.zero u hu h

/-- v leaves its parent. -/
theorem AccR.cut {v c : Nat} (A : AccR n st L par tv pd v) (F : Fst n par tv) (hv : v < n) (hc : st v 0 = c) :
    Inv n (pullS (upd2 (upd2 (upd2 st c 2 (-1)) v 0 (-1)) v 3 0) v) (fun u => if u = v then [v] else L u) (upd par v (-1)) (upd tv v 0) (fun u => if u = c then 0 else pd u) := by
  have I := A.inv
  have hcc : Ch st v c := .inl hc
  have hcn := (I.ch v c hv hcc)
  have cv : c ≠ v := I.chNe hv hcc
  have l1 : st v 1 < 0 := A.rt
  have pdz : w64 (pd c) = w64 0 := by rw [I.pdc v c hv hcc, A.p0, A.a0]; rfl
  have l3 : least3 (upd2 (upd2 (upd2 st c 2 (-1)) v 0 (-1)) v 3 0) v = 0 := by
    rw [least3_eq]
    have e0 : upd2 (upd2 (upd2 st c 2 (-1)) v 0 (-1)) v 3 0 v 0 = -1 := by simp [upd2]
    have e1 : upd2 (upd2 (upd2 st c 2 (-1)) v 0 (-1)) v 3 0 v 1 = st v 1 := by simp [upd2]
    have e3 : upd2 (upd2 (upd2 st c 2 (-1)) v 0 (-1)) v 3 0 v 3 = 0 := by simp [upd2]
    rw [e0, e1, e3]
    unfold lstep
    rw [if_neg (by omega), if_neg (by omega)]
  generalize hst : pullS (upd2 (upd2 (upd2 st c 2 (-1)) v 0 (-1)) v 3 0) v = st'
  have E : ∀ u j, st' u j = if u = v then (if j = 0 then -1 else if j = 3 ∨ j = 4 then 0 else st v j) else if u = c ∧ j = 2 then -1 else st u j := by
    intro u j
    rw [← hst]
    unfold pullS
    rw [l3]
    unfold upd2
    by_cases hu : u = v
    · subst hu
      have : ¬ u = c := fun h => cv h.symm
      by_cases j0 : j = 0
      · subst j0; simp
      · by_cases j3 : j = 3
        · subst j3; simp
        · by_cases j4 : j = 4
          · subst j4; simp
          · simp [j0, j3, j4, this]
    · simp [hu]
  have nch : ∀ u, u < n → ¬ Ch st u v := fun u hu h => A.top u (I.ch u v hu h).2 h
  have CH : ∀ u y, u < n → Ch st' u y → u ≠ v ∧ Ch st u y ∧ y ≠ c ∧ y ≠ v := by
    intro u y hu h
    by_cases huv : u = v
    · subst huv
      exfalso
      rcases h with h | h
      · rw [E, if_pos rfl, if_pos rfl] at h; omega
      · rw [E, if_pos rfl, if_neg (by omega), if_neg (by omega)] at h; omega
    · have h' : Ch st u y := by
        unfold Ch at h ⊢
        rw [E, E, if_neg huv, if_neg huv, if_neg (by omega), if_neg (by omega)] at h
        exact h
      refine ⟨huv, h', ?_, ?_⟩
      · rintro rfl
        have := (I.ch u y hu h').2
        omega
      · rintro rfl
        exact nch u hu h'
  have CH2 : ∀ u y, u ≠ v → Ch st u y → Ch st' u y := by
    intro u y huv h
    unfold Ch at h ⊢
    rw [E, E, if_neg huv, if_neg huv, if_neg (by omega), if_neg (by omega)]
    exact h
  have tv' : ∀ u, u ≠ v → upd tv v 0 u = tv u := fun u hu => if_neg hu
  have par' : ∀ u, u ≠ v → upd par v (-1) u = par u := fun u hu => if_neg hu
  have tvv : upd tv v 0 v = 0 := if_pos rfl
  have parv : upd par v (-1) v = -1 := if_pos rfl
  generalize hpd : (fun u => if u = c then (0 : Int) else pd u) = pd'
  have pdD : ∀ w, pd' w = if w = c then (0 : Int) else pd w := fun w => by rw [← hpd]
  have pdE : ∀ w, w64 (pd' w) = w64 (pd w) := by
    intro w
    rw [pdD]
    by_cases h : w = c
    · rw [if_pos h, h, pdz]
    · rw [if_neg h]
  have lvE : L v = L c ++ [v] := by
    rw [I.ino v hv, hc, LL_nat, LL_neg l1]
  have TOP : ∀ u, u < n → u ≠ v → Top st' u → u = c ∨ (u ≠ c ∧ Top st u) := by
    intro u hu huv hT
    by_cases e : u = c
    · exact .inl e
    · refine .inr ⟨e, fun y hy hc' => ?_⟩
      by_cases e2 : y = v
      · subst e2
        rcases hc' with k | k <;> omega
      · exact hT y (by rw [E, if_neg huv, if_neg (by omega)]; exact hy) (CH2 y u e2 hc')
  refine ⟨?_, ?_, ?_, ?_, ?_, ?_, ?_, ?_, ?_⟩
  · intro u y hu h
    obtain ⟨h1, h2, h3, h4⟩ := CH u y hu h
    rw [E, if_neg h4, if_neg (by omega)]
    exact I.ch u y hu h2
  · intro u hu
    rw [E]
    by_cases h : u = v
    · subst h
      rw [if_pos rfl, if_neg (by omega), if_neg (by omega)]
      exact I.up u hu
    · rw [if_neg h]
      split
      · exact .inl (by omega)
      · exact I.up u hu
  · intro u hu
    by_cases h : u = v
    · subst h
      rw [E, E, if_pos rfl, if_pos rfl, if_pos rfl, if_pos rfl, if_neg (by omega), if_neg (by omega), LL_neg (by omega), LL_neg l1]
      rfl
    · rw [E, E, if_neg h, if_neg h, if_neg h, if_neg (by omega), if_neg (by omega), I.ino u hu]
      have q : ∀ z : Int, z ≠ v → LL (fun u => if u = v then [v] else L u) z = LL L z := by
        intro z hz
        unfold LL
        split
        · exact if_neg (by omega)
        · rfl
      rw [q, q]
      · exact fun h => nch u hu (.inr h)
      · exact fun h => nch u hu (.inl h)
  · intro u hu
    by_cases h : u = v
    · show Chn _ (if u = v then [v] else L u)
      rw [if_pos h]; trivial
    · show Chn _ (if u = v then [v] else L u)
      rw [if_neg h]
      exact (I.chn u hu).congr fun y hy => par' y (I.nmem A.top hu h hy)
  · intro u hu hT
    show ∃ a l, (if u = v then [v] else L u) = a :: l ∧ _
    by_cases h : u = v
    · subst h
      rw [if_pos rfl]
      refine ⟨u, [], rfl, ?_⟩
      rw [parv, E, if_pos rfl, if_neg (by omega), if_neg (by omega), A.up]
    · rw [if_neg h]
      rcases TOP u hu h hT with e | ⟨e, hT'⟩
      · subst e
        rw [E, if_neg h, if_pos ⟨rfl, rfl⟩]
        obtain ⟨a, l, e1, e2⟩ := I.hd v hv A.top
        rw [lvE] at e1
        cases hl : L u with
        | nil => have := I.self hu; rw [hl] at this; cases this
        | cons b l' =>
          rw [hl] at e1
          simp at e1
          refine ⟨b, l', rfl, ?_⟩
          rw [par' b (I.nmem A.top hu h (by rw [hl]; simp)), e1.1, e2, A.up]
      · obtain ⟨a, l, e1, e2⟩ := I.hd u hu hT'
        refine ⟨a, l, e1, ?_⟩
        rw [par' a (I.nmem A.top hu h (by rw [e1]; simp)), E, if_neg h, if_neg (by omega), e2]
  · intro u hu hT
    rw [pdD]
    by_cases e : u = c
    · rw [if_pos e]
    · rw [if_neg e]
      by_cases h : u = v
      · subst h; exact A.p0
      · rcases TOP u hu h hT with e' | ⟨_, hT'⟩
        · exact absurd e' e
        · exact I.pdt u hu hT'
  · intro u y hu h
    obtain ⟨h1, h2, h3, h4⟩ := CH u y hu h
    rw [pdE, I.pdc u y hu h2, E, if_neg h1, if_neg (by omega)]
    obtain ⟨k, hk⟩ := w64_cg.1 (pdE u)
    exact w64_of ⟨-k, by omega⟩
  · intro u hu
    rw [E]
    by_cases h : u = v
    · subst h
      have e1 : pd' u = 0 := by rw [pdD, if_neg (fun h => cv h.symm)]; exact A.p0
      rw [if_pos rfl, if_neg (by omega), if_pos (.inl rfl), tvv, e1]
      rfl
    · rw [if_neg h, if_neg (by omega), tv' u h, I.val u hu]
      exact Inv.pd_cg (pdE u)
  · intro u hu
    rw [E]
    by_cases h : u = v
    · subst h
      have e1 : pd' u = 0 := by rw [pdD, if_neg (fun h => cv h.symm)]; exact A.p0
      have e2 : (if u = u then [u] else L u) = [u] := if_pos rfl
      rw [if_pos rfl, if_neg (by omega), if_pos (.inr rfl), e1, e2]
      simp only [mn, tvv]
      rfl
    · have e2 : (if u = v then [v] else L u) = L u := if_neg h
      rw [if_neg h, if_neg (by omega), e2, mn_congr fun y hy => tv' y (I.nmem A.top hu h hy), I.lst u hu]
      exact Inv.pd_cg (pdE u)

theorem Fst.cut {v : Nat} (F : Fst n par tv) (hv : v < n) : Fst n (upd par v (-1)) (upd tv v 0) := by
  obtain ⟨d, hd⟩ := F.acy
  refine ⟨?_, ⟨d, ?_⟩, ?_, ?_⟩
  · intro u hu
    unfold upd
    split
    · exact .inl rfl
    · exact F.pt u hu
  · intro y u hy h
    unfold upd at h
    split at h
    · omega
    · exact hd y u hy h
  · intro u hu
    unfold upd
    split
    · omega
    · exact F.rng u hu
  · intro u hu h
    unfold upd at h ⊢
    split
    · rfl
    · rename_i e
      rw [if_neg e] at h
      exact F.zero u hu h

end
end Go.Proofs.YtdcamadeblojdaaGreat

namespace Go.Proofs.YtdcamadeblojdaaGreat
open Go
set_option linter.unusedVariables false

theorem mn_add {tv tv' : Nat → Int} {x : Int} : ∀ {l : List Nat}, l ≠ [] → (∀ y ∈ l, tv' y = tv y + x) → (∀ y ∈ l, tv y < 9223372036854775808 ∧ tv' y < 9223372036854775808) → mn tv' l = mn tv l + x := by
  intro l
  induction l with
  | nil => intro h; exact absurd rfl h
  | cons a l ih =>
    intro _ h hr
    have ha := h a (by simp)
    have hra := hr a (by simp)
    simp only [mn]
    cases l with
    | nil => simp only [mn]; omega
    | cons b l =>
      have := ih (by simp) (fun y hy => h y (List.mem_cons_of_mem _ hy)) (fun y hy => hr y (List.mem_cons_of_mem _ hy))
      rw [this, ha]
      omega
theorem Chn.par_of {par : Nat → Int} : ∀ {l : List Nat} {a : Nat}, Chn par (a :: l) → ∀ x ∈ l, ∃ u : Nat, par x = u := by
  intro l
  induction l with
  | nil => intro a _ x hx; cases hx
  | cons b l ih =>
    intro a h x hx
    rcases List.mem_cons.1 hx with rfl | hx
    · exact ⟨a, h.1⟩
    · exact ih h.2 x hx

section
variable {n : Nat} {st : St} {L : Nat → List Nat} {par tv pd : Nat → Int}

/-- What is added to the values of the nodes l. -/
def addT (tv : Nat → Int) (l : List Nat) (x : Int) : Nat → Int := fun w => if w ∈ l then tv w + x else tv w

theorem Fst.add {l : List Nat} {x : Int} (F : Fst n par tv) (hl : ∀ w ∈ l, par w ≠ -1)
    (hr : ∀ w, w < n → -9223372036854775808 ≤ tv w + x ∧ tv w + x < 9223372036854775808) : Fst n par (addT tv l x) := by
  refine ⟨F.pt, F.acy, ?_, ?_⟩
  · intro v hv
    unfold addT
    split
    · exact hr v hv
    · exact F.rng v hv
  · intro v hv h
    unfold addT
    rw [if_neg (fun hm => hl v hm h)]
    exact F.zero v hv h

theorem RootR.tail {r v : Nat} (A : RootR n st L par tv pd r v) : L r = r :: LL L (st r 1) := by
  rw [A.inv.ino r A.rn, LL_neg A.lf]; rfl

theorem RootR.add {r v : Nat} {x : Int} (A : RootR n st L par tv pd r v) (F : Fst n par tv)
    (hr : ∀ w, w < n → -9223372036854775808 ≤ tv w + x ∧ tv w + x < 9223372036854775808) :
    ∃ pd', Inv n (pullS (raiseS st (st r 1) x) r) L par (addT tv (LL L (st r 1)) x) pd' := by
  have I := A.inv
  have hrn := A.rn
  have tl := A.tail
  have hrng : ∀ w l, w < n → -9223372036854775808 ≤ addT tv l x w ∧ addT tv l x w < 9223372036854775808 := by
    intro w l hw
    unfold addT
    split
    · exact hr w hw
    · exact F.rng w hw
  rcases pt_of I hrn (k := 1) (by decide) with h0 | ⟨c, hc, hcn⟩
  · -- the root alone
    refine ⟨pd, ?_⟩
    rw [raiseS_neg h0, LL_neg h0]
    have et : addT tv [] x = tv := by funext w; exact if_neg (by simp)
    rw [et]
    have l3 : least3 st r = mn tv (L r) := by
      refine least3_ok ?_ ?_ (I.ino r hrn) (fun a ha => (F.rng a (I.lt r hrn a ha)).2)
      · rw [I.val r hrn, A.p0, Int.sub_zero, w64_in (F.rng r hrn).1 (F.rng r hrn).2]
      · intro c hc
        exact I.lstZ F (I.ch r c hrn hc).1 (by rw [I.pdc r c hrn hc, A.p0, A.a0]; rfl)
    have e4 : st r 4 = mn tv (L r) := I.lstZ F hrn (by rw [A.p0])
    have : pullS st r = st := by
      funext w j
      unfold pullS upd2
      rw [l3]
      split
      · rename_i h; obtain ⟨rfl, rfl⟩ := h; exact e4.symm
      · rfl
    rw [this]; exact I
  · rw [hc, LL_nat]
    have hcc : Ch st r c := .inr hc
    have tl' : L r = r :: L c := by rw [tl, hc, LL_nat]
    have cr : c ≠ r := I.chNe hrn hcc
    have nr : r ∉ L c := by
      have := I.nodup F hrn
      rw [tl'] at this
      exact (List.nodup_cons.1 this).1
    have c2 : st c 2 = r := (I.ch r c hrn hcc).2
    have pcz : w64 (pd c) = w64 0 := by rw [I.pdc r c hrn hcc, A.p0, A.a0]; rfl
    generalize htv : addT tv (L c) x = tv'
    have tvD : ∀ w, tv' w = if w ∈ L c then tv w + x else tv w := fun w => by rw [← htv]; rfl
    have tvr : ∀ w, w < n → -9223372036854775808 ≤ tv' w ∧ tv' w < 9223372036854775808 := fun w hw => by rw [← htv]; exact hrng w _ hw
    generalize hpd : (fun w => if w ∈ L c ∧ w ≠ c then pd w + x else pd w) = pd'
    have pdD : ∀ w, pd' w = if w ∈ L c ∧ w ≠ c then pd w + x else pd w := fun w => by rw [← hpd]
    generalize hst : pullS (raiseS st c x) r = st'
    have E : ∀ w j, j ≠ 4 → st' w j = if w = c ∧ (j = 3 ∨ j = 5) then w64 (st w j + x) else st w j := by
      intro w j hj
      rw [← hst]
      unfold pullS
      show upd2 _ r 4 _ w j = _
      unfold upd2
      rw [if_neg (by omega), raiseS_at]
      congr 1
      exact propext ⟨fun ⟨a, b⟩ => ⟨a, by omega⟩, fun ⟨a, b⟩ => ⟨a, by omega⟩⟩
    have E4 : ∀ w, st' w 4 = if w = r then least3 (raiseS st c x) r else if w = c then w64 (st w 4 + x) else st w 4 := by
      intro w
      rw [← hst]
      unfold pullS
      show upd2 _ r 4 _ w 4 = _
      unfold upd2
      by_cases h : w = r
      · rw [if_pos ⟨h, rfl⟩, if_pos h]
      · rw [if_neg (fun k => h k.1), if_neg h, raiseS_at]
        congr 1
        exact propext ⟨fun ⟨a, b⟩ => a, fun a => ⟨a, by omega⟩⟩
    have lk : ∀ w j, j < 3 → st' w j = st w j := fun w j hj => by rw [E w j (by omega), if_neg (by omega)]
    -- children and the set below c
    have chm : ∀ u y, u < n → Ch st u y → (y ∈ L c ↔ u ∈ L c ∨ y = c) := by
      intro u y hu h
      constructor
      · intro hy
        rcases I.anc c hcn y hy with h1 | ⟨z, hz, hzn, hcz, hzc⟩
        · exact .inr h1
        · have := (I.ch u y hu h).2
          have e : z = u := by omega
          subst e
          exact .inl hzc
      · rintro (h1 | rfl)
        · exact I.mtrans c hcn u h1 y (I.sub hu h (I.self (I.ch u y hu h).1))
        · exact I.self hcn
    have chc : ∀ u y, u < n → Ch st u y → y = c → u = r := by
      rintro u y hu h rfl
      have := (I.ch u y hu h).2
      omega
    have least_c : mn tv' (L c) = mn tv (L c) + x := by
      refine mn_add (fun h => by have := I.self hcn; rw [h] at this; cases this) (fun y hy => by rw [tvD, if_pos hy]) (fun y hy => ?_)
      have := I.lt c hcn y hy
      exact ⟨(F.rng y this).2, (tvr y this).2⟩
    have rngR : ∀ a ∈ L r, a < n := I.lt r hrn
    have mnr : ∀ w, w < n → -9223372036854775808 ≤ mn tv' (L w) ∧ mn tv' (L w) < 9223372036854775808 := fun w hw =>
      ⟨mn_low _ fun a ha => (tvr a (I.lt w hw a ha)).1, mn_high (I.self hw) (tvr w hw).2⟩
    refine ⟨pd', ⟨?_, ?_, ?_, I.chn, ?_, ?_, ?_, ?_, ?_⟩⟩
    · intro u y hu h
      rw [lk _ _ (by decide)]
      exact I.ch u y hu ((Ch.congr lk).1 h)
    · intro u hu
      rw [lk _ _ (by decide)]; exact I.up u hu
    · intro u hu
      rw [lk _ _ (by decide), lk _ _ (by decide)]; exact I.ino u hu
    · intro u hu hT
      rw [lk _ _ (by decide)]
      exact I.hd u hu ((Top.congr lk).1 hT)
    · intro u hu hT
      have hT := (Top.congr lk).1 hT
      rw [pdD, if_neg]
      · exact I.pdt u hu hT
      · rintro ⟨h1, h2⟩
        exact h2 (I.top_of_mem hcn h1 hT)
    · intro u y hu h
      replace h := (Ch.congr lk).1 h
      have k := I.pdc u y hu h
      have m := chm u y hu h
      rw [E _ _ (by decide), pdD, pdD]
      by_cases hy : y = c
      · have hur := chc u y hu h hy
        subst hur
        rw [if_neg (fun h => h.2 hy), if_neg (fun h => nr h.1), if_neg (fun h => cr h.1.symm)]
        exact k
      · by_cases hm : u ∈ L c
        · rw [if_pos ⟨m.2 (.inl hm), hy⟩]
          by_cases huc : u = c
          · subst huc
            rw [if_neg (fun h => h.2 rfl), if_pos ⟨rfl, .inr rfl⟩]
            obtain ⟨i, hi⟩ := w64_cg.1 k
            obtain ⟨j, hj, _⟩ := w64_eq (st u 5 + x)
            exact w64_of ⟨i - j, by omega⟩
          · rw [if_pos ⟨hm, huc⟩, if_neg (fun h => huc h.1)]
            obtain ⟨i, hi⟩ := w64_cg.1 k
            exact w64_of ⟨i, by omega⟩
        · have : ¬ y ∈ L c := fun h => (m.1 h).elim hm hy
          rw [if_neg (fun h => this h.1), if_neg (fun h => hm h.1), if_neg (fun h => hm (by rw [h.1]; exact I.self hcn))]
          exact k
    · intro u hu
      rw [E _ _ (by decide), pdD, tvD]
      by_cases huc : u = c
      · subst huc
        rw [if_pos ⟨rfl, .inl rfl⟩, if_pos (I.self hcn), if_neg (fun h => h.2 rfl), I.val u hu]
        obtain ⟨j, hj, _⟩ := w64_eq (tv u - pd u)
        exact w64_of ⟨j, by omega⟩
      · rw [if_neg (fun h => huc h.1), I.val u hu]
        by_cases hm : u ∈ L c
        · rw [if_pos hm, if_pos ⟨hm, huc⟩]
          congr 1; omega
        · rw [if_neg hm, if_neg (fun h => hm h.1)]
    · intro u hu
      rw [E4, pdD]
      by_cases hur : u = r
      · subst hur
        rw [if_pos rfl, if_neg (fun h => nr h.1), A.p0, Int.sub_zero, w64_in (mnr u hu).1 (mnr u hu).2]
        refine least3_ok ?_ ?_ ?_ (fun a ha => (tvr a (rngR a ha)).2)
        · rw [raiseS_at, if_neg (fun h => cr h.1.symm), I.val u hu, A.p0, Int.sub_zero, w64_in (F.rng u hu).1 (F.rng u hu).2, tvD, if_neg nr]
        · intro y hy
          have hy' : Ch st u y := by
            unfold Ch at hy ⊢
            rw [raiseS_at, raiseS_at, if_neg (by omega), if_neg (by omega)] at hy
            exact hy
          have hyc : y = c := by
            rcases hy' with h | h
            · have := A.lf; omega
            · omega
          subst hyc
          rw [raiseS_at, if_pos ⟨rfl, by omega⟩, I.lstZ F hcn pcz, ← least_c, w64_in (mnr y hcn).1 (mnr y hcn).2]
        · rw [raiseS_at, raiseS_at, if_neg (by omega), if_neg (by omega)]
          exact I.ino u hu
      · rw [if_neg hur]
        by_cases huc : u = c
        · subst huc
          rw [if_pos rfl, if_neg (fun h => h.2 rfl), least_c, I.lst u hu]
          obtain ⟨j, hj, _⟩ := w64_eq (mn tv (L u) - pd u)
          exact w64_of ⟨j, by omega⟩
        · rw [if_neg huc]
          by_cases hm : u ∈ L c
          · rw [if_pos ⟨hm, huc⟩]
            have : mn tv' (L u) = mn tv (L u) + x := by
              refine mn_add (fun h => by have := I.self hu; rw [h] at this; cases this) (fun y hy => by rw [tvD, if_pos (I.mtrans c hcn u hm y hy)]) (fun y hy => ?_)
              have := I.lt u hu y hy
              exact ⟨(F.rng y this).2, (tvr y this).2⟩
            rw [this, I.lst u hu]
            congr 1; omega
          · rw [if_neg (fun h => hm h.1), I.lst u hu]
            have : mn tv' (L u) = mn tv (L u) := by
              refine mn_congr fun y hy => ?_
              rw [tvD, if_neg]
              intro hyc
              rcases I.cmp hcn u hu y hy hyc with h | h
              · exact hm h
              · rcases I.anc u hu c h with h1 | ⟨z, hz, _, _, hzu⟩
                · exact huc h1.symm
                · have : z = r := by omega
                  subst this
                  exact hur (I.top_of_mem hu hzu A.top).symm
            rw [this]

end
end Go.Proofs.YtdcamadeblojdaaGreat

namespace Go.Proofs.YtdcamadeblojdaaGreat
open Go
set_option linter.unusedVariables false

/-- In h there is a forest of n nodes at bf (its nodes at bn), which means par and tv. -/
structure Forest (h : H) (bf bn n : Nat) (par tv : Nat → Int) : Prop where
  small : n ≤ 1024
  fst : Fst n par tv
  ex : ∃ e st L pd, Fz h bf bn e n st ∧ Inv n st L par tv pd

def isN (n : Nat) (v : Int) : Prop := 0 ≤ v ∧ v < (n : Int)
instance (n : Nat) (v : Int) : Decidable (isN n v) := inferInstanceAs (Decidable (_ ∧ _))
def isL (x : Int) : Prop := -1048576 ≤ x ∧ x ≤ 1048576
instance (x : Int) : Decidable (isL x) := inferInstanceAs (Decidable (_ ∧ _))
def childC (n : Nat) (par : Nat → Int) (v : Int) : Int := if isN n v then (if par v.toNat = -1 then 70 else 0) else 30

theorem isN_false {n : Nat} {v : Int} (h : (!decide (0 ≤ v ∧ v < (n : Int))) = true) : ¬ isN n v := fun k => by
  unfold isN at k
  rw [decide_eq_true k] at h
  cases h
theorem isL_false {x : Int} (h : (!decide (-1048576 ≤ x ∧ x ≤ 1048576)) = true) : ¬ isL x := fun k => by
  unfold isL at k
  rw [decide_eq_true k] at h
  cases h
theorem isN_true {n : Nat} {v : Int} (h : (!decide (0 ≤ v ∧ v < (n : Int))) = false) : isN n v := by unfold isN; simpa using h
theorem isL_true {x : Int} (h : (!decide (-1048576 ≤ x ∧ x ≤ 1048576)) = false) : isL x := by unfold isL; simpa using h
theorem isN.nat {n : Nat} {v : Int} (h : isN n v) : ∃ w : Nat, v = w ∧ w < n := ⟨v.toNat, by unfold isN at h; omega, by unfold isN at h; omega⟩
theorem isN_of {n w : Nat} (h : w < n) : isN n (w : Int) := by unfold isN; omega
theorem childC_nat {n w : Nat} {par : Nat → Int} (h : w < n) : childC n par (w : Int) = if par w = -1 then 70 else 0 := by
  unfold childC
  rw [if_pos (isN_of h), Int.toNat_natCast]

section
variable {bf bn n : Nat} {h : H} {par tv : Nat → Int}

theorem Forest.hd (P : Forest h bf bn n par tv) : Hd h bf bn n := by
  obtain ⟨e, st, L, pd, f, _⟩ := P.ex
  exact f.hd

theorem Root_T (P : Forest h bf bn n par tv) (v : Int) :
    T Tryz.prog F.links_Forest_Root [fo bf, .int .i64 v] h fun r h' => Kp bn h h' ∧ Forest h' bf bn n par tv ∧
      ((¬ isN n v ∧ r = .ret (.tuple ⟨[.int .i64 0, .int .i64 30]⟩)) ∨ ∃ w x : Nat, v = w ∧ w < n ∧ Rt par w x ∧ x < n ∧ r = .ret (.tuple ⟨[vi x, .int .i64 0]⟩)) := by
  refine E_links_Forest_Root ?_
  unfold B_links_Forest_Root
  refine (node_T P.hd v).mono ?_
  rintro _ _ ⟨rfl, rfl⟩
  refine ⟨_, rfl, ifP_of (fun hv => ?_) (fun hv => ?_)⟩
  · exact ⟨Kp.refl, P, .inl ⟨isN_false hv, rfl⟩⟩
  · have hv : isN n v := by unfold isN; simpa using hv
    obtain ⟨w, rfl, hw⟩ := hv.nat
    obtain ⟨e, st, L, pd, f, I⟩ := P.ex
    refine (root_T f I P.fst P.small hw).mono ?_
    rintro _ h' ⟨x, rfl, st', L', pd', f', kp, R⟩
    exact ⟨_, rfl, kp, ⟨P.small, P.fst, _, _, _, _, f', R.inv⟩, .inr ⟨w, x, rfl, hw, R.rt, R.rn, rfl⟩⟩

/-- A node that has an edge above it, with the way to it on top; or the error. -/
theorem child_T (P : Forest h bf bn n par tv) (v : Int) :
    T Tryz.prog F.links_Forest_child [fo bf, .int .i64 v] h fun r h' => Kp bn h h' ∧ Forest h' bf bn n par tv ∧ r = .ret (.int .i64 (childC n par v)) ∧
      (childC n par v = 0 → ∃ w : Nat, v = w ∧ w < n ∧ par w ≠ -1 ∧ ∃ e st L pd, Fz h' bf bn e n st ∧ AccR n st L par tv pd w) := by
  refine E_links_Forest_child ?_
  unfold B_links_Forest_child
  refine (node_T P.hd v).mono ?_
  rintro _ _ ⟨rfl, rfl⟩
  refine ⟨_, rfl, ifP_of (fun hv => ?_) (fun hv => ?_)⟩
  · have hv : ¬ isN n v := isN_false hv
    have e : childC n par v = 30 := if_neg hv
    rw [e]
    exact ⟨Kp.refl, P, rfl, fun h => by omega⟩
  · have hv : isN n v := by unfold isN; simpa using hv
    obtain ⟨w, rfl, hw⟩ := hv.nat
    obtain ⟨e, st, L, pd, f, I⟩ := P.ex
    refine (root_T f I P.fst P.small hw).mono ?_
    rintro _ h' ⟨x, rfl, st', L', pd', f', kp, R⟩
    rw [childC_nat hw]
    refine ⟨_, rfl, ifP_of (fun hx => ?_) (fun hx => ?_)⟩
    · have hx : x = w := by have := of_decide_eq_true hx; omega
      subst hx
      rw [if_pos R.root]
      exact ⟨kp, ⟨P.small, P.fst, _, _, _, _, f', R.inv⟩, rfl, fun h => by omega⟩
    · have hx : x ≠ w := by have := of_decide_eq_false hx; omega
      have hp : par w ≠ -1 := fun hp => hx (R.rt.uniq (Rt.self hp))
      rw [if_neg hp]
      refine (access_T f' R.inv P.fst P.small hw).mono ?_
      rintro _ h2 ⟨rfl, st2, L2, pd2, f2, kp2, A⟩
      exact ⟨rfl, kp.trans kp2, ⟨P.small, P.fst, _, _, _, _, f2, A.inv⟩, rfl, fun _ => ⟨w, rfl, hw, hp, _, _, _, _, f2, A⟩⟩

theorem Cut_T (P : Forest h bf bn n par tv) (v : Int) :
    T Tryz.prog F.links_Forest_Cut [fo bf, .int .i64 v] h fun r h' => Kp bn h h' ∧
      r = .ret (.tuple ⟨[.int .i64 (if childC n par v = 0 then tv v.toNat else 0), .int .i64 (childC n par v)]⟩) ∧
      (childC n par v = 0 → Forest h' bf bn n (upd par v.toNat (-1)) (upd tv v.toNat 0)) ∧ (childC n par v ≠ 0 → Forest h' bf bn n par tv) := by
  refine E_links_Forest_Cut ?_
  unfold B_links_Forest_Cut
  refine (child_T P v).mono ?_
  rintro _ h' ⟨kp, P', rfl, hc⟩
  refine ⟨_, rfl, ifP_of (fun h0 => ?_) (fun h0 => ?_)⟩
  · have h0 : ¬ childC n par v = 0 := by simpa using h0
    rw [if_neg h0]
    exact ⟨kp, rfl, fun h => absurd h h0, fun _ => P'⟩
  · have h0 : childC n par v = 0 := by simpa using h0
    obtain ⟨w, rfl, hw, hp, e, st, L, pd, f, A⟩ := hc h0
    rw [if_pos h0, h0]
    have ul := A.upw hw
    obtain ⟨c, hlc⟩ : ∃ c : Nat, st w 0 = c := by
      rcases pt_of A.inv hw (k := 0) (by decide) with h | ⟨c, h, _⟩
      · exfalso
        have e1 : L w = [w] := by rw [A.inv.ino w hw, LL_neg h, LL_neg A.rt]; rfl
        rw [e1] at ul
        cases ul with
        | root h => exact hp h
        | step _ h => cases h
      · exact ⟨c, h⟩
    have hcn := (A.inv.ch w c hw (.inl hlc)).1
    have cw := A.inv.chNe hw (.inl hlc)
    refine nd f.hd hw ⟨_, f.hd.ld, _, f.ld hw (by decide), ?_⟩
    rw [hlc]
    refine nx hcn ⟨f.wr hcn (by decide), ?_⟩
    rw [f.set hcn (by decide)]
    have f1 := f.next (st' := upd2 st c 2 (-1))
    refine ⟨f1.wr hw (by decide), ?_⟩
    rw [f1.set hw (by decide), fp_fp]
    have f2 := f.next (st' := upd2 (upd2 st c 2 (-1)) w 0 (-1))
    refine ⟨_, f2.ld hw (by decide), f2.wr hw (by decide), ?_⟩
    rw [f2.set hw (by decide), fp_fp]
    have f3 := f.next (st' := upd2 (upd2 (upd2 st c 2 (-1)) w 0 (-1)) w 3 0)
    have e3 : upd2 (upd2 st c 2 (-1)) w 0 (-1) w 3 = tv w := by
      have : upd2 (upd2 st c 2 (-1)) w 0 (-1) w 3 = st w 3 := by simp [upd2]
      rw [this, A.inv.val w hw, A.p0, Int.sub_zero, w64_in (P.fst.rng w hw).1 (P.fst.rng w hw).2]
    rw [e3]
    refine (pull_A f3 hw ?_ ?_).mono ?_
    · have : upd2 (upd2 (upd2 st c 2 (-1)) w 0 (-1)) w 3 0 w 0 = -1 := by simp [upd2]
      rw [this]; exact .inl (by omega)
    · have : upd2 (upd2 (upd2 st c 2 (-1)) w 0 (-1)) w 3 0 w 1 = st w 1 := by simp [upd2]
      rw [this]; exact .inl A.rt
    rintro _ _ ⟨rfl, rfl⟩
    rw [fp_fp]
    refine ⟨rfl, kp.trans Kp.fp, rfl, fun _ => ?_, fun h => absurd rfl h⟩
    rw [Int.toNat_natCast]
    exact ⟨P.small, P.fst.cut hw, _, _, _, _, f.next, A.cut P.fst hw hlc⟩

end
end Go.Proofs.YtdcamadeblojdaaGreat

namespace Go.Proofs.YtdcamadeblojdaaGreat
open Go
set_option linter.unusedVariables false

/-- What Link answers, and the forest then. -/
inductive LinkS (n : Nat) (par tv : Nat → Int) (v w x : Int) : Int → (Nat → Int) → (Nat → Int) → Prop
  | node : ¬ (isN n v ∧ isN n w) → LinkS n par tv v w x 30 par tv
  | label : isN n v → isN n w → ¬ isL x → LinkS n par tv v w x 31 par tv
  | root : isN n v → isN n w → isL x → par v.toNat ≠ -1 → LinkS n par tv v w x 70 par tv
  | cycle : isN n v → isN n w → isL x → par v.toNat = -1 → Rt par w.toNat v.toNat → LinkS n par tv v w x 71 par tv
  | ok : isN n v → isN n w → isL x → par v.toNat = -1 → ¬ Rt par w.toNat v.toNat → LinkS n par tv v w x 0 (upd par v.toNat w) (upd tv v.toNat x)

/-- The nodes of a way that have an edge above. -/
def edges (par : Nat → Int) (l : List Nat) : List Nat := l.filter fun w => decide (par w ≠ -1)

/-- What Add answers, and the values then. -/
inductive AddS (n : Nat) (par tv : Nat → Int) (v x : Int) : Int → (Nat → Int) → Prop
  | node : ¬ isN n v → AddS n par tv v x 30 tv
  | label : isN n v → ¬ isL x → AddS n par tv v x 31 tv
  | ok {l : List Nat} : isN n v → isL x → UpW par v.toNat l → AddS n par tv v x 0 (addT tv (edges par l) x)

/-- What Least answers. -/
inductive LeastS (n : Nat) (par tv : Nat → Int) (v : Int) : Int → Int → Int → Prop
  | bad : childC n par v ≠ 0 → LeastS n par tv v 0 0 (childC n par v)
  | ok {A B : List Nat} {a r : Nat} : childC n par v = 0 → UpW par v.toNat (A ++ a :: B ++ [r]) → (∀ w ∈ A, tv a ≤ tv w) → (∀ w ∈ B, tv a < tv w) → LeastS n par tv v a (tv a) 0

section
variable {bf bn n : Nat} {h : H} {par tv : Nat → Int}

theorem Link_T (P : Forest h bf bn n par tv) (v w x : Int) :
    T Tryz.prog F.links_Forest_Link [fo bf, .int .i64 v, .int .i64 w, .int .i64 x] h fun r h' => Kp bn h h' ∧ ∃ c par' tv', r = .ret (.int .i64 c) ∧ LinkS n par tv v w x c par' tv' ∧ Forest h' bf bn n par' tv' := by
  refine E_links_Forest_Link ?_
  unfold B_links_Forest_Link
  refine (node_T P.hd v).mono ?_
  rintro _ _ ⟨rfl, rfl⟩
  refine ⟨_, rfl, ifP_of (fun hv => ?_) (fun hv => ?_)⟩
  · exact ⟨Kp.refl, _, _, _, rfl, .node (fun h => isN_false hv h.1), P⟩
  have hv := isN_true hv
  refine (node_T P.hd w).mono ?_
  rintro _ _ ⟨rfl, rfl⟩
  refine ⟨_, rfl, ifP_of (fun hw => ?_) (fun hw => ?_)⟩
  · exact ⟨Kp.refl, _, _, _, rfl, .node (fun h => isN_false hw h.2), P⟩
  have hw := isN_true hw
  refine (label_T x).mono ?_
  rintro _ _ ⟨rfl, rfl⟩
  refine ⟨_, rfl, ifP_of (fun hx => ?_) (fun hx => ?_)⟩
  · exact ⟨Kp.refl, _, _, _, rfl, .label hv hw (isL_false hx), P⟩
  have hx := isL_true hx
  obtain ⟨e, st, L, pd, f, I⟩ := P.ex
  obtain ⟨v, rfl, hvn⟩ := hv.nat
  obtain ⟨w, rfl, hwn⟩ := hw.nat
  refine (root_T f I P.fst P.small hvn).mono ?_
  rintro _ h1 ⟨r, rfl, st1, L1, pd1, f1, kp1, R1⟩
  refine ⟨_, rfl, ifP_of (fun hr => ?_) (fun hr => ?_)⟩
  · have hr : (r : Int) ≠ v := by simpa using hr
    refine ⟨kp1, _, _, _, rfl, .root hv hw hx ?_, ⟨P.small, P.fst, _, _, _, _, f1, R1.inv⟩⟩
    rw [Int.toNat_natCast]
    exact fun hp => hr (by rw [R1.rt.uniq (Rt.self hp)])
  have hr : (r : Int) = v := by simpa using hr
  have hr : r = v := by omega
  subst hr
  refine (root_T f1 R1.inv P.fst P.small hwn).mono ?_
  rintro _ h2 ⟨r2, rfl, st2, L2, pd2, f2, kp2, R2⟩
  refine ⟨_, rfl, ifP_of (fun hr2 => ?_) (fun hr2 => ?_)⟩
  · have hr2 : (r2 : Int) = r := by simpa using hr2
    have hr2 : r2 = r := by omega
    subst hr2
    refine ⟨kp1.trans kp2, _, _, _, rfl, .cycle hv hw hx ?_ ?_, ⟨P.small, P.fst, _, _, _, _, f2, R2.inv⟩⟩
    · rw [Int.toNat_natCast]; exact R1.root
    · rw [Int.toNat_natCast, Int.toNat_natCast]; exact R2.rt
  have hr2 : (r2 : Int) ≠ r := by simpa using hr2
  have nrt : ¬ Rt par w r := fun hh => hr2 (by rw [R2.rt.uniq hh])
  refine (access_T f2 R2.inv P.fst P.small hvn).mono ?_
  rintro _ h3 ⟨rfl, st3, L3, pd3, f3, kp3, A⟩
  refine ⟨rfl, nd f3.hd hvn ⟨f3.wr hvn (by decide), ?_⟩⟩
  rw [f3.set hvn (by decide)]
  have f4 := f3.next (st' := upd2 st3 r 3 x)
  have q : ∀ k, k < 3 → upd2 st3 r 3 x r k = st3 r k := fun k hk => if_neg (by omega)
  refine (pull_A f4 hvn (by rw [q _ (by decide)]; exact pc_of A.inv hvn (by decide)) (by rw [q _ (by decide)]; exact pc_of A.inv hvn (by decide))).mono ?_
  rintro _ _ ⟨rfl, rfl⟩
  rw [fp_fp]
  refine ⟨rfl, ?_⟩
  have f5 := f3.next (st' := pullS (upd2 st3 r 3 x) r)
  refine nd f5.hd hvn ⟨f5.wr hvn (by decide), ?_⟩
  rw [f5.set hvn (by decide), fp_fp]
  have xr : -9223372036854775808 ≤ x ∧ x < 9223372036854775808 := by unfold isL at hx; omega
  have er : ((r : Nat) : Int).toNat = r := Int.toNat_natCast r
  have I' := A.link P.fst hvn hwn R1.root xr
  have F' := P.fst.link hvn hwn R1.root nrt xr
  refine ⟨((kp1.trans kp2).trans kp3).trans Kp.fp, _, _, _, rfl, .ok hv hw hx ?_ ?_, ⟨P.small, ?_, e, _, L3, pd3, f3.next, ?_⟩⟩
  · rw [er]; exact R1.root
  · rw [er, Int.toNat_natCast]; exact nrt
  · rw [er]; exact F'
  · rw [er]; exact I'

theorem RootR.edges {st : St} {L : Nat → List Nat} {pd : Nat → Int} {r v : Nat} {x : Int} (A : RootR n st L par tv pd r v) (w : Nat) :
    w ∈ LL L (st r 1) ↔ w ∈ edges par (L r).reverse := by
  have tl := A.tail
  have ch := A.inv.chn r A.rn
  rw [tl] at ch
  rw [tl]
  unfold Go.Proofs.YtdcamadeblojdaaGreat.edges
  simp only [List.mem_filter, List.mem_reverse, List.mem_cons, decide_eq_true_eq]
  constructor
  · intro h
    obtain ⟨u, hu⟩ := ch.par_of w h
    exact ⟨.inr h, by omega⟩
  · rintro ⟨rfl | h, h2⟩
    · exact absurd A.root h2
    · exact h

theorem Add_T (P : Forest h bf bn n par tv) (v x : Int) (hr : isL x → ∀ w, w < n → -9223372036854775808 ≤ tv w + x ∧ tv w + x < 9223372036854775808) :
    T Tryz.prog F.links_Forest_Add [fo bf, .int .i64 v, .int .i64 x] h fun r h' => Kp bn h h' ∧ ∃ c tv', r = .ret (.int .i64 c) ∧ AddS n par tv v x c tv' ∧ Forest h' bf bn n par tv' := by
  refine E_links_Forest_Add ?_
  unfold B_links_Forest_Add
  refine (node_T P.hd v).mono ?_
  rintro _ _ ⟨rfl, rfl⟩
  refine ⟨_, rfl, ifP_of (fun hv => ?_) (fun hv => ?_)⟩
  · exact ⟨Kp.refl, _, _, rfl, .node (isN_false hv), P⟩
  have hv := isN_true hv
  refine (label_T x).mono ?_
  rintro _ _ ⟨rfl, rfl⟩
  refine ⟨_, rfl, ifP_of (fun hx => ?_) (fun hx => ?_)⟩
  · exact ⟨Kp.refl, _, _, rfl, .label hv (isL_false hx), P⟩
  have hx := isL_true hx
  obtain ⟨e, st, L, pd, f, I⟩ := P.ex
  obtain ⟨v, rfl, hvn⟩ := hv.nat
  refine (root_T f I P.fst P.small hvn).mono ?_
  rintro _ h1 ⟨r, rfl, st1, L1, pd1, f1, kp1, R⟩
  have hrn := R.rn
  refine ⟨_, rfl, nd f1.hd hrn ⟨_, f1.ld hrn (by decide), ?_⟩⟩
  refine (raise_A f1 (pt_of R.inv hrn (by decide)) x).mono ?_
  rintro _ _ ⟨rfl, rfl⟩
  refine ⟨rfl, ?_⟩
  have f2 := f1.next (st' := raiseS st1 (st1 r 1) x)
  refine (pull_A f2 hrn (by rw [raiseS_link (by decide)]; exact pc_of R.inv hrn (by decide)) (by rw [raiseS_link (by decide)]; exact pc_of R.inv hrn (by decide))).mono ?_
  rintro _ _ ⟨rfl, rfl⟩
  rw [fp_fp]
  obtain ⟨pd', I'⟩ := R.add P.fst (hr hx)
  have et : addT tv (LL L1 (st1 r 1)) x = addT tv (edges par (L1 r).reverse) x := by
    funext w
    unfold addT
    by_cases hm : w ∈ LL L1 (st1 r 1)
    · rw [if_pos hm, if_pos ((R.edges (x := x) w).1 hm)]
    · rw [if_neg hm, if_neg (fun h => hm ((R.edges (x := x) w).2 h))]
  rw [et] at I'
  refine ⟨rfl, kp1.trans Kp.fp, _, _, rfl, .ok hv hx (by rw [Int.toNat_natCast]; exact R.upw), P.small, ?_, _, _, _, _, f1.next, I'⟩
  refine P.fst.add (fun w hw => ?_) (hr hx)
  unfold edges at hw
  simpa using (List.mem_filter.1 hw).2

theorem ints_one {n : Nat} {f : Nat → Int} : ∀ v ∈ ints n f, v.oneCell' = true := by
  intro z hz
  unfold ints at hz
  obtain ⟨i, _, rfl⟩ := List.mem_map.1 hz
  rfl
theorem st_new {h : H} {b e n : Nat} {zs vs : List Value} {K : H → Prop} (hn : vs.length = n) (hl : zs.length = n) (one : ∀ v ∈ vs, v.oneCell' = true)
    (k : K (hput h b (.cells ⟨vs⟩ e (0, 0)))) : stN (hput h b (.cells ⟨zs⟩ e (0, 0))) (bk b) vs n K := by
  refine ⟨hn, one, put_wr (i := 0) (by omega), ?_⟩
  rw [hset_put (by omega)]
  exact k
/-- A new block that is filled at once. -/
theorem new_st {h : H} {e n : Nat} {zs vs : List Value} {K : Nat → H → Prop} (hn : vs.length = n) (hl : zs.length = n) (one : ∀ v ∈ vs, v.oneCell' = true)
    (k : ∀ b g, h b = none → (∀ c, Kp c h g) → g b = some (.cells ⟨vs⟩ e (0, 0)) → (∀ i v, vs[i]? = some v → hcell g ((bk b).add i) = some v) → K b g) :
    newP h (.cells ⟨zs⟩ e (0, 0)) fun b h1 => stN h1 (bk b) vs n (K b) := by
  intro b hb
  refine st_new hn hl one ?_
  exact k b _ hb (fun c => Kp.put hb) (by simp [hput]) fun i v hi => put_ld hi

theorem Least_T (P : Forest h bf bn n par tv) (v : Int) :
    T Tryz.prog F.links_Forest_Least [fo bf, .int .i64 v] h fun r h' => Kp bn h h' ∧ Forest h' bf bn n par tv ∧
      ∃ a m c, r = .ret (.tuple ⟨[.int .i64 a, .int .i64 m, .int .i64 c]⟩) ∧ LeastS n par tv v a m c := by
  refine E_links_Forest_Least ?_
  unfold B_links_Forest_Least
  refine (child_T P v).mono ?_
  rintro _ h' ⟨kp, P', rfl, hc⟩
  refine ⟨_, rfl, ifP_of (fun h0 => ?_) (fun h0 => ?_)⟩
  · have h0 : ¬ childC n par v = 0 := by simpa using h0
    exact ⟨kp, P', _, _, _, rfl, .bad h0⟩
  have h0 : childC n par v = 0 := by simpa using h0
  obtain ⟨w, rfl, hw, hp, e, st, L, pd, f, A⟩ := hc h0
  refine (root_T f A.inv P.fst P.small hw).mono ?_
  rintro _ h1 ⟨r, rfl, st1, L1, pd1, f1, kp1, R⟩
  have hrn := R.rn
  have tl := R.tail
  obtain ⟨c, hc⟩ : ∃ c : Nat, st1 r 1 = c := by
    rcases pt_of R.inv hrn (k := 1) (by decide) with h | ⟨c, h, _⟩
    · exfalso
      have ul := R.upw
      rw [tl, LL_neg h] at ul
      cases ul with
      | root hh => exact hp hh
      | step _ hh => cases hh
    · exact ⟨c, h⟩
  have hcc : Ch st1 r c := .inr hc
  have hcn := (R.inv.ch r c hrn hcc).1
  rw [hc, LL_nat] at tl
  have pcz : w64 (pd1 c) = w64 0 := by rw [R.inv.pdc r c hrn hcc, R.p0, R.a0]; rfl
  have lc : st1 c 4 = mn tv (L1 c) := R.inv.lstZ P.fst hcn pcz
  refine ⟨_, rfl, nd f1.hd hrn ⟨_, f1.ld hrn (by decide), ?_⟩⟩
  rw [hc]
  refine nd f1.hd hcn ⟨_, f1.ld hcn (by decide), ?_⟩
  rw [lc]
  generalize hm : mn tv (L1 c) = m
  have mr := R.inv.mnRng P.fst c hcn
  rw [hm] at mr
  let I15 : (Int × Unit) → H → Nat → Prop := fun s g k =>
    ∃ st2 pd2 A B, ∃ u : Nat, s.1 = u ∧ u < n ∧ Fz g bf bn e n st2 ∧ Kp bn h g ∧ Inv n st2 L1 par tv pd2 ∧ w64 (pd2 u) = w64 0 ∧
      L1 c = A ++ L1 u ++ B ∧ (∀ x ∈ A, m < tv x) ∧ mn tv (L1 u) = m ∧ k = (L1 u).length
  refine ⟨fun s g => ∃ k, I15 s g k, rk I15, rk_wf I15, ⟨_, st1, pd1, [], [], c, rfl, hcn, f1, kp.trans kp1, R.inv, pcz, by simp, by simp, hm, rfl⟩, ?_⟩
  intro at' g hI
  obtain ⟨st2, pd2, X, Y, u, hu', hu, f2, kp2, J, pz, hL, hX, hmu, hk⟩ := mu_spec hI
  generalize hkk : mu I15 ((at', ()), g) = k at *
  change at' = (u : Int) at hu'
  subst hu'
  refine (push_A f2 hu (pt_of J hu (by decide)) (pt_of J hu (by decide))).mono ?_
  rintro _ _ ⟨rfl, rfl⟩
  refine ⟨rfl, ?_⟩
  have J3 := J.push P.fst hu
  have f3 : Fz (fp g bn e n 6 (pushS st2 u)) bf bn e n (pushS st2 u) := f2.next
  have chz : ∀ y, Ch (pushS st2 u) u y → w64 (pdPush st2 pd2 u y) = w64 0 := by
    intro y hy
    have := (Ch.congr (fun w j hj => pushS_link J P.fst hu w hj)).1 hy
    unfold pdPush
    rw [if_pos this, pz]
  have uz : w64 (pdPush st2 pd2 u u) = w64 0 := by
    unfold pdPush
    split <;> exact pz
  have kp3 : Kp bn h (fp g bn e n 6 (pushS st2 u)) := kp2.trans Kp.fp
  generalize pushS st2 u = st3 at *
  generalize pdPush st2 pd2 u = pd3 at *
  generalize fp g bn e n 6 st3 = g3 at *
  have v3 : st3 u 3 = tv u := by
    rw [J3.val u hu]
    obtain ⟨i, hi⟩ := w64_cg.1 uz
    have : w64 (tv u - pd3 u) = w64 (tv u) := w64_of ⟨-i, by omega⟩
    rw [this, w64_in (P.fst.rng u hu).1 (P.fst.rng u hu).2]
  have mU := J3.mnEq P.fst hu
  rw [hmu] at mU
  have inU := J3.ino u hu
  refine nd f3.hd hu ⟨ints 6 fun j => st3 u j, ints_length _ _, ?_, ?_⟩
  · intro i z hi
    have : i < 6 := by
      have := (List.getElem?_eq_some_iff.1 hi).1
      rwa [ints_length] at this
    rw [ints_get this] at hi
    cases hi
    exact f3.ld hu this
  refine new_st (ints_length _ _) rfl ints_one ?_
  intro b g4 hb kpg _ ldg
  have f4 := f3.kp (kpg b) (f3.ne hb).1 (f3.ne hb).2
  have kp4 : Kp bn h g4 := kp3.trans (kpg bn)
  have ld4 : ∀ {j : Nat}, j < 6 → hcell g4 ((bk b).add j) = some (.int .i64 (st3 u j)) := fun hj => ldg _ _ (ints_get hj)
  have stop : tv u = m → (∀ x ∈ LL L1 (st3 u 0), m < tv x) → T Tryz.prog F.links_Forest_splay [fo bf, vi u] g4 (rt (fun v36 h37 => v36 = .tuple ⟨[]⟩ ∧
      (Kp bn h h37 ∧ Forest h37 bf bn n par tv ∧ ∃ a m' c, Res.ret (.tuple ⟨[vi u, .int .i64 m, .int .i64 0]⟩) = Res.ret (.tuple ⟨[.int .i64 a, .int .i64 m', .int .i64 c]⟩) ∧ LeastS n par tv w a m' c))
      (fun v38 h39 => Kp bn h h39 ∧ Forest h39 bf bn n par tv ∧ ∃ a m' c, Res.pan v38 = Res.ret (.tuple ⟨[.int .i64 a, .int .i64 m', .int .i64 c]⟩) ∧ LeastS n par tv w a m' c)) := by
    intro ht hlow
    refine (splay_T f4 J3 P.fst P.small hu).mono ?_
    rintro _ g5 ⟨rfl, st5, L5, pd5, f5, kp5, R5⟩
    refine ⟨rfl, kp4.trans kp5, ⟨P.small, P.fst, _, _, _, _, f5, R5.inv⟩, u, m, 0, rfl, ?_⟩
    rw [← ht]
    have hall : ∀ x ∈ L1 c, m ≤ tv x := fun x hx => by rw [← hm]; exact mn_le hx
    refine LeastS.ok (A := Y.reverse ++ (LL L1 (st3 u 1)).reverse) (B := (LL L1 (st3 u 0)).reverse ++ X.reverse) (r := r) h0 ?_ ?_ ?_
    · rw [Int.toNat_natCast]
      have := R.upw
      rw [tl, hL, inU] at this
      simpa using this
    · intro x hx
      rw [ht]
      refine hall x ?_
      rw [hL, inU]
      simp only [List.mem_append, List.mem_reverse, List.mem_cons] at hx ⊢
      rcases hx with h | h
      · exact .inr h
      · exact .inl (.inr (.inr (.inr h)))
    · intro x hx
      rw [ht]
      simp only [List.mem_append, List.mem_reverse] at hx
      rcases hx with h | h
      · exact hlow x h
      · exact hX x h
  have right : tv u ≠ m → (∀ x ∈ LL L1 (st3 u 0), m < tv x) → (mn tv (LL L1 (st3 u 0)) ≠ m) → (∃ k, I15 (st3 u 1, ()) g4 k) ∧ rk I15 ((st3 u 1, ()), g4) (((u : Int), ()), g) := by
    intro ht hlow hne
    obtain ⟨y, hy⟩ : ∃ y : Nat, st3 u 1 = y := by
      rcases pt_of J3 hu (k := 1) (by decide) with h | ⟨y, h, _⟩
      · exfalso
        rw [LL_neg h] at mU
        simp only [mn] at mU
        omega
      · exact ⟨y, h⟩
    have hyc : Ch st3 u y := .inr hy
    have hyn := (J3.ch u y hu hyc).1
    rw [hy, LL_nat] at mU inU
    have hm1 : m < tv u ∧ m < mn tv (LL L1 (st3 u 0)) ∧ mn tv (L1 y) = m := by omega
    rw [hy]
    refine mu_next (I := I15) (k := (L1 y).length) ⟨st3, pd3, X ++ LL L1 (st3 u 0) ++ [u], Y, y, rfl, hyn, f4, kp4, J3, chz y hyc, ?_, ?_, hm1.2.2, rfl⟩ ?_
    · rw [hL, inU]; simp
    · intro x hx
      simp only [List.mem_append, List.mem_singleton] at hx
      rcases hx with (h | h) | h
      · exact hX x h
      · exact hlow x h
      · subst h; exact hm1.1
    · rw [hkk, hk]; exact J3.len hu hyc
  refine ⟨_, ld4 (by decide), ?_⟩
  refine ifP_of (fun hx => ?_) (fun hx => ?_)
  · have hx := of_decide_eq_true hx
    obtain ⟨y, hy⟩ : ∃ y : Nat, st3 u 0 = y := ⟨(st3 u 0).toNat, by omega⟩
    have hyc : Ch st3 u y := .inl hy
    have hyn := (J3.ch u y hu hyc).1
    refine ⟨_, f4.hd.ld, _, ld4 (by decide), ?_⟩
    rw [hy]
    refine nx hyn ⟨_, f4.ld hyn (by decide), ?_⟩
    rw [J3.lstZ P.fst hyn (chz y hyc)]
    refine ifP_of (fun he => ?_) (fun he => ?_)
    · have he := of_decide_eq_true he
      refine ⟨_, ld4 (by decide), ?_⟩
      rw [hy] at inU ⊢
      rw [LL_nat] at inU
      refine mu_next (I := I15) (k := (L1 y).length) ⟨st3, pd3, X, u :: LL L1 (st3 u 1) ++ Y, y, rfl, hyn, f4, kp4, J3, chz y hyc, ?_, hX, he, rfl⟩ ?_
      · rw [hL, inU]; simp
      · rw [hkk, hk]; exact J3.len hu hyc
    · have he := of_decide_eq_false he
      rw [hy] at stop right mU
      rw [LL_nat] at stop right mU
      have hlow : ∀ x ∈ L1 y, m < tv x := fun x hx => by
        have := mn_le (tv := tv) hx
        omega
      refine ⟨_, ld4 (by decide), ?_⟩
      rw [v3]
      refine ifP_of (fun ht => stop (of_decide_eq_true ht) hlow) (fun ht => ⟨_, ld4 (by decide), right (of_decide_eq_false ht) hlow he⟩)
  · have hx := of_decide_eq_false hx
    have e0 : LL L1 (st3 u 0) = [] := LL_neg (by omega)
    rw [e0] at stop right
    refine ⟨_, ld4 (by decide), ?_⟩
    rw [v3]
    refine ifP_of (fun ht => stop (of_decide_eq_true ht) (by simp)) (fun ht => ⟨_, ld4 (by decide), right (of_decide_eq_false ht) (by simp) (by simp only [mn]; omega)⟩)

end
end Go.Proofs.YtdcamadeblojdaaGreat

namespace Go.Proofs.YtdcamadeblojdaaGreat
open Go
set_option linter.unusedVariables false

theorem Ext.trans' {a b c : H} (x : Ext a b) (y : Ext b c) : Ext a c := fun k o e => y k o (x k o e)
/-- What keeps all but a block that was not known keeps all. -/
theorem Ext.of_kp {h1 h2 h3 : H} {b : Nat} (x : Ext h1 h2) (k : Kp b h2 h3) (hb : h1 b = none) : Ext h1 h3 := fun j o e =>
  k j o (by rintro rfl; rw [hb] at e; cases e) (x j o e)

theorem ints_zrep (n : Nat) : zrep [.int .i64 0] n = ints n fun _ => 0 := by
  unfold zrep ints
  induction n with
  | zero => rfl
  | succ n ih => rw [List.replicate_succ', List.range_succ, List.flatten_append, ih, List.map_append]; rfl
theorem flat_rep {z : List Value} {k : Nat} (hz : z = ints k fun _ => 0) (n : Nat) : zrep z n = recs n k fun _ _ => 0 := by
  unfold recs
  rw [← ints_zrep, hz, ← ints_zrep]
  unfold zrep
  induction n with
  | zero => simp
  | succ n ih =>
    rw [List.replicate_succ', List.flatten_append, ih, Nat.add_mul, Nat.one_mul, ← List.replicate_append_replicate (n := n * k) (m := k), List.flatten_append]
    simp

/-- One record anew. -/
def updR (st : Nat → Nat → Int) (v : Nat) (r : Nat → Int) : Nat → Nat → Int := fun w j => if w = v then r j else st w j
theorem fp_setN {h0 : H} {b e n k : Nat} {st : Nat → Nat → Int} {v : Nat} {r : Nat → Int} (hv : v < n) :
    hset (fp h0 b e n k st) ((bk b).add (v * k)) (ints k r) = fp h0 b e n k (updR st v r) := by
  have hle : v * k + k ≤ n * k := by
    calc v * k + k = (v + 1) * k := by rw [Nat.add_mul]; omega
      _ ≤ n * k := Nat.mul_le_mul_right _ hv
  rw [bk_add]
  funext b'
  unfold hset
  by_cases hb : b' = b
  · subst hb
    rw [if_pos rfl, fp_at, fp_at]
    simp only [Option.map_some]
    rw [setR_list _ _ _ (by rw [ints_length, recs_length]; exact hle)]
    congr 3
    have hlen : (List.take (v * k) (recs n k st) ++ ints k r ++ List.drop (v * k + (ints k r).length) (recs n k st)).length = (recs n k (updR st v r)).length := by
      simp only [List.length_append, List.length_take, List.length_drop, ints_length, recs_length]
      omega
    refine List.ext_getElem? fun i => ?_
    by_cases hi : i < n * k
    · have e2 : (recs n k (updR st v r))[i]? = some (.int .i64 (updR st v r (i / k) (i % k))) := ints_get hi
      have e1 : (recs n k st)[i]? = some (.int .i64 (st (i / k) (i % k))) := ints_get hi
      have hk : 0 < k := by
        rcases Nat.eq_zero_or_pos k with h | h
        · subst h; omega
        · exact h
      rw [e2]
      rw [List.getElem?_append, List.getElem?_append]
      simp only [List.length_append, List.length_take, ints_length, recs_length]
      have hdm := Nat.div_add_mod i k
      have hmod := Nat.mod_lt i hk
      unfold updR
      by_cases h1 : i < v * k
      · have hq : i / k ≠ v := by
          intro hq
          rw [hq, Nat.mul_comm] at hdm
          omega
        rw [if_pos (by omega), if_pos (by omega), List.getElem?_take, if_pos h1, e1, if_neg hq]
      · by_cases h2 : i < v * k + k
        · have hq : i / k = v := by
            apply Nat.div_eq_of_lt_le
            · omega
            · rw [Nat.add_mul]; omega
          have hr : i % k = i - v * k := by rw [hq, Nat.mul_comm] at hdm; omega
          rw [if_pos (by omega), if_neg (by omega), if_pos hq]
          rw [show i - min (v * k) (n * k) = i - v * k by omega, ints_get (by omega), hr]
        · have hq : i / k ≠ v := by
            intro hq
            rw [hq, Nat.mul_comm] at hdm
            omega
          rw [if_neg (by omega), List.getElem?_drop, if_neg hq]
          rw [show v * k + k + (i - (min (v * k) (n * k) + k)) = i by omega, e1]
    · rw [List.getElem?_eq_none (by rw [hlen, recs_length]; omega), List.getElem?_eq_none (by rw [recs_length]; omega)]
  · rw [if_neg hb, fp_ne hb, fp_ne hb]

theorem fp_wrN {h0 : H} {b e n k : Nat} {st : Nat → Nat → Int} {v : Nat} (hv : v < n) : hwr (fp h0 b e n k st) ((bk b).add (v * k)) k := by
  rw [bk_add]
  refine ⟨_, _, fp_at .., rfl, ?_⟩
  have hle : v * k + k ≤ n * k := by
    calc v * k + k = (v + 1) * k := by rw [Nat.add_mul]; omega
      _ ≤ n * k := Nat.mul_le_mul_right _ hv
  simpa [recs_length] using hle
/-- A new block, seen from outside. -/
theorem new_put {h : H} {o : Obj} {K : Nat → H → Prop} (k : ∀ b g, h b = none → Ext h g → g b = some o → K b g) : newP h o K := fun b hb =>
  k b _ hb (Ext.put hb o) (by simp [hput])

def newSt (i : Nat) : St := fun w j => if w < i ∧ j < 3 then -1 else 0
theorem newSt_inv (n : Nat) : Inv n (newSt n) (fun v => [v]) (fun _ => -1) (fun _ => 0) (fun _ => 0) := by
  have lo : ∀ v j, v < n → j < 3 → newSt n v j = -1 := fun v j hv hj => if_pos ⟨hv, hj⟩
  have hi : ∀ v j, 3 ≤ j → newSt n v j = 0 := fun v j hj => if_neg (by omega)
  have nc : ∀ u y : Nat, u < n → ¬ Ch (newSt n) u y := by
    intro u y hu h
    rcases h with h | h <;> rw [lo _ _ hu (by decide)] at h <;> omega
  refine ⟨?_, ?_, ?_, ?_, ?_, ?_, ?_, ?_, ?_⟩
  · intro u y hu h; exact absurd h (nc u y hu)
  · intro v hv; rw [lo _ _ hv (by decide)]; exact .inl (by omega)
  · intro v hv
    rw [lo _ _ hv (by decide), lo _ _ hv (by decide), LL_neg (by omega)]; rfl
  · intro v hv; trivial
  · intro v hv _
    exact ⟨v, [], rfl, by rw [lo _ _ hv (by decide)]⟩
  · intro v hv _; rfl
  · intro u y hu h; exact absurd h (nc u y hu)
  · intro v hv; rw [hi _ _ (by decide)]; rfl
  · intro v hv; rw [hi _ _ (by decide)]; rfl
theorem newSt_fst (n : Nat) : Fst n (fun _ => -1) (fun _ => 0) :=
  ⟨fun _ _ => .inl rfl, ⟨fun _ => 0, fun v u _ h => by omega⟩, fun _ _ => by omega, fun _ _ _ => rfl⟩

theorem New_T (h : H) (n : Int) :
    T Tryz.prog F.links_New [.int .i64 n] h fun r h' => Ext h h' ∧
      (((n < 0 ∨ 1024 < n) ∧ r = .ret (.tuple ⟨[.pointer none, .int .i64 3]⟩)) ∨
       (0 ≤ n ∧ n ≤ 1024 ∧ ∃ bf bn, r = .ret (.tuple ⟨[fo bf, .int .i64 0]⟩) ∧ h bf = none ∧ h bn = none ∧ Forest h' bf bn n.toNat (fun _ => -1) (fun _ => 0))) := by
  refine E_links_New ?_
  unfold B_links_New
  refine ifP_of (fun h1 => ?_) (fun h1 => ?_)
  · exact ⟨Ext.refl _, .inl ⟨.inl (of_decide_eq_true h1), rfl⟩⟩
  have h1 := of_decide_eq_false h1
  refine ifP_of (fun h2 => ?_) (fun h2 => ?_)
  · exact ⟨Ext.refl _, .inl ⟨.inr (of_decide_eq_true h2), rfl⟩⟩
  have h2 := of_decide_eq_false h2
  obtain ⟨m, rfl⟩ : ∃ m : Nat, n = m := ⟨n.toNat, by omega⟩
  refine ⟨by omega, Int.le_refl _, by omega, by omega, ?_⟩
  refine new_put ?_
  intro b1 g1 hb1 x1 e1
  refine new_put ?_
  intro b3 g2 hb3 x2 e2
  rw [Int.toNat_natCast] at e1 e2 ⊢
  have fr : zrep [.int .i64 0, .int .i64 0, .int .i64 0, .int .i64 0, .int .i64 0, .int .i64 0] m = recs m 6 (fun _ _ => 0) := flat_rep (k := 6) rfl m
  rw [fr] at e1
  have ne : b3 ≠ b1 := by
    rintro rfl
    rw [e1] at hb3; cases hb3
  have hb3' : h b3 = none := by
    cases e : h b3 with
    | none => rfl
    | some o => rw [x1 _ _ e] at hb3; cases hb3
  have x4 : Ext h g2 := x1.trans' x2
  have z0 : newSt 0 = fun _ _ => 0 := by funext w j; exact if_neg (by omega)
  obtain ⟨ty, f4⟩ : ∃ ty, Fz g2 b3 b1 ty m (newSt 0) := ⟨_, ⟨ne, _, e2⟩, by rw [z0]; exact x2 _ _ e1⟩
  refine ⟨_, f4.hd.ld, ?_⟩
  let I9 : (Int × Unit) → H → Nat → Prop := fun s g k => ∃ i : Nat, s.1 = i ∧ i ≤ m ∧ k = m - i ∧ Ext h g ∧ Fz g b3 b1 ty m (newSt i)
  refine ⟨fun s g => ∃ k, I9 s g k, rk I9, rk_wf I9, ⟨_, 0, rfl, Nat.zero_le _, rfl, x4, f4⟩, ?_⟩
  intro s g hI
  obtain ⟨i, hi, him, hk, xg, fz⟩ := mu_spec hI
  generalize hkk : mu I9 ((s, ()), g) = k at *
  change s = (i : Int) at hi
  subst hi
  refine ifP_of (fun h0 => ?_) (fun h0 => ?_)
  · have h0 := of_decide_eq_true h0
    have him : i < m := by omega
    refine ⟨_, fz.hd.ld, nx him ⟨rfl, by simp [Value.oneCell'], ?_, ?_⟩⟩
    · have := fp_wrN (h0 := g) (b := b1) (e := ty) (k := 6) (st := newSt i) him
      rwa [fp_self fz.at_] at this
    · have := fp_setN (h0 := g) (b := b1) (e := ty) (k := 6) (st := newSt i) (r := fun j => if j < 3 then -1 else 0) him
      rw [fp_self fz.at_] at this
      have e6 : ints 6 (fun j => if j < 3 then -1 else 0) = [.int .i64 (-1), .int .i64 (-1), .int .i64 (-1), .int .i64 0, .int .i64 0, .int .i64 0] := rfl
      rw [e6] at this
      rw [this]
      have e7 : updR (newSt i) i (fun j => if j < 3 then -1 else 0) = newSt (i + 1) := by
        funext w j
        unfold updR newSt
        by_cases hw : w = i
        · subst hw
          show (if w = w then (if j < 3 then (-1 : Int) else 0) else _) = _
          by_cases hj : j < 3
          · rw [if_pos rfl, if_pos hj, if_pos ⟨by omega, hj⟩]
          · rw [if_pos rfl, if_neg hj, if_neg (fun h => hj h.2)]
        · rw [if_neg hw]
          congr 1
          exact propext ⟨fun ⟨a, b⟩ => ⟨by omega, b⟩, fun ⟨a, b⟩ => ⟨by omega, b⟩⟩
      rw [e7]
      have wi : IntKind.i64.wrap ((i : Int) + 1) = ((i + 1 : Nat) : Int) := by
        have : IntKind.i64.wrap ((i : Int) + 1) = (i : Int) + 1 := w64_in (by omega) (by omega)
        rw [this]; omega
      rw [wi]
      refine mu_next (I := I9) (k := m - (i + 1)) ⟨i + 1, rfl, him, rfl, xg.of_kp (Kp.fp (bn := b1)) hb1, fz.next⟩ (by rw [hkk, hk]; omega)
  · have h0 := of_decide_eq_false h0
    have : i = m := by omega
    subst this
    exact ⟨xg, .inr ⟨by omega, by omega, b3, b1, rfl, hb3', hb1, ⟨by omega, newSt_fst i, _, _, _, _, fz, newSt_inv i⟩⟩⟩

end Go.Proofs.YtdcamadeblojdaaGreat

namespace Go.Proofs.YtdcamadeblojdaaGreat
open Go
set_option linter.unusedVariables false

theorem rt_ret {A X : Value → H → Prop} {v : Value} {h : H} (k : A v h) : rt A X (.ret v) h := k
theorem i64_inc {i : Nat} (h : i < 9223372036854775807) : IntKind.i64.wrap ((i : Int) + 1) = ((i + 1 : Nat) : Int) := by
  have : IntKind.i64.wrap ((i : Int) + 1) = (i : Int) + 1 := w64_in (by omega) (by omega)
  rw [this]; omega
def va (n : Nat) (f : Nat → Value) : List Value := (List.range n).map f
theorem va_length (n : Nat) (f : Nat → Value) : (va n f).length = n := by simp [va]
theorem va_get {n : Nat} {f : Nat → Value} {i : Nat} (h : i < n) : (va n f)[i]? = some (f i) := by
  simp [va, List.getElem?_map, List.getElem?_range h]
def updV (f : Nat → Value) (i : Nat) (x : Value) : Nat → Value := fun j => if j = i then x else f j
theorem va_set {n : Nat} {f : Nat → Value} {i : Nat} {x : Value} : (va n f).set i x = va n (updV f i x) := by
  apply List.ext_getElem
  · simp [va]
  · intro j h1 h2
    simp only [va, List.getElem_set, List.getElem_map, List.getElem_range, updV]
    by_cases e : i = j
    · subst e; simp
    · rw [if_neg e, if_neg (fun h => e h.symm)]
/-- The block b holds vs. -/
def Bl (h : H) (b : Nat) (vs : List Value) : Prop := ∃ e, h b = some (.cells ⟨vs⟩ e (0, 0))
theorem Bl.ext {h h' : H} {b : Nat} {vs : List Value} (B : Bl h b vs) (x : Ext h h') : Bl h' b vs := by
  obtain ⟨e, k⟩ := B; exact ⟨e, x _ _ k⟩
theorem Bl.kp {h h' : H} {b c : Nat} {vs : List Value} (B : Bl h b vs) (x : Kp c h h') (ne : b ≠ c) : Bl h' b vs := by
  obtain ⟨e, k⟩ := B; exact ⟨e, x _ _ ne k⟩
theorem Bl.ne {h : H} {b c : Nat} {vs : List Value} (B : Bl h b vs) (hc : h c = none) : b ≠ c := by
  rintro rfl; obtain ⟨e, k⟩ := B; rw [hc] at k; cases k
theorem new_bl {h : H} {vs : List Value} {e : Nat} {K : Nat → H → Prop} (k : ∀ b g, h b = none → Ext h g → Bl g b vs → K b g) :
    newP h (.cells ⟨vs⟩ e (0, 0)) K := fun b hb => k b _ hb (Ext.put hb _) ⟨e, by simp [hput]⟩
theorem Bl.ld {h : H} {b i : Nat} {vs : List Value} {v : Value} (B : Bl h b vs) (hi : vs[i]? = some v) : hcell h ((bk b).add i) = some v := by
  obtain ⟨e, k⟩ := B
  rw [bk_add, hcell_at k, List.getElem?_toArray]
  exact hi
theorem Bl.ldN {h : H} {b n : Nat} {vs : List Value} {K : List Value → Prop} (B : Bl h b vs) (hn : vs.length = n) (k : K vs) : ldN h (bk b) n K :=
  ⟨vs, hn, fun _ _ hi => B.ld hi, k⟩
theorem Bl.stN {h : H} {b n : Nat} {vs ws : List Value} {K : H → Prop} (B : Bl h b vs) (hn : ws.length = n) (hv : vs.length = n) (one : ∀ v ∈ ws, v.oneCell' = true)
    (k : ∀ g, Kp b h g → Bl g b ws → K g) : stN h (bk b) ws n K := by
  obtain ⟨e, hb⟩ := B
  refine ⟨hn, one, ⟨_, _, hb, rfl, by simp; omega⟩, k _ ?_ ⟨e, ?_⟩⟩
  · intro j o hj hh
    unfold hset
    rw [if_neg hj]; exact hh
  · unfold hset
    rw [if_pos rfl, hb]
    simp only [Option.map_some]
    rw [setR_list ws vs 0 (by omega)]
    simp [hn, hv]
theorem new_bl_st {h : H} {zs ws : List Value} {e n : Nat} {K : Nat → H → Prop} (hn : ws.length = n) (hz : zs.length = n) (one : ∀ v ∈ ws, v.oneCell' = true)
    (k : ∀ b g, h b = none → Ext h g → Bl g b ws → K b g) : newP h (.cells ⟨zs⟩ e (0, 0)) fun b h1 => stN h1 (bk b) ws n (K b) := by
  refine new_st hn hz one ?_
  intro b g hb kp e2 _
  exact k b g hb (fun j o hj => kp (j + 1) j o (by omega) hj) ⟨e, e2⟩
theorem add_block (a : Addr) (i : Nat) : (a.add i).block = a.block := by unfold Addr.add; split <;> rfl
theorem sameAt_of {h h' : H} {a : Addr} {n : Nat} (e : h' a.block = h a.block) : sameAt n a h h' := by
  intro i _
  unfold hcell
  rw [add_block, e]
theorem slcP_mk {a : Option Addr} {l c : Nat} {K : Option Addr → Nat → Nat → Prop} (k : K a l c) : slcP (.slice a l c) K := k
theorem Bl.stC {h : H} {b i : Nat} {vs : List Value} {x : Value} {K : H → Prop} (B : Bl h b vs) (hi : i < vs.length)
    (k : ∀ g, Kp b h g → Bl g b (vs.set i x) → K g) : stC h ((bk b).add i) x K := by
  obtain ⟨e, hb⟩ := B
  rw [bk_add]
  refine ⟨⟨_, _, hb, rfl, by simp; omega⟩, k _ ?_ ⟨e, ?_⟩⟩
  · intro j o hj hh
    unfold hset
    rw [if_neg hj]; exact hh
  · unfold hset
    rw [if_pos rfl, hb]
    simp only [Option.map_some, setR]
    rw [List.setIfInBounds_toArray]
theorem oneP_slc {v : Value} {K : Prop} (h : ∃ a l c, v = .slice a l c) (k : K) : oneP v K := by
  obtain ⟨_, _, _, rfl⟩ := h
  exact k
theorem slc_one {v : Value} (h : ∃ a l c, v = .slice a l c) : v.oneCell' = true := by
  obtain ⟨_, _, _, rfl⟩ := h
  rfl
theorem Ext.new {h g : H} {b : Nat} (x : Ext h g) (hb : g b = none) : h b = none := by
  cases e : h b with
  | none => rfl
  | some o => rw [x _ _ e] at hb; cases hb
theorem sameAt_bl {g g' : H} {b i n : Nat} {vs : List Value} (B : Bl g b vs) (B' : Bl g' b vs) : sameAt n ((bk b).add i) g g' := by
  obtain ⟨e, h1⟩ := B
  obtain ⟨e', h2⟩ := B'
  intro j _
  rw [bk_add, bk_add2, hcell_at h1, hcell_at h2]
end Go.Proofs.YtdcamadeblojdaaGreat

namespace Go.Proofs.YtdcamadeblojdaaGreat
open Go
set_option linter.unusedVariables false

/-- An edge: from, to, capacity, cost. -/
structure Ed where
  f : Int
  t : Int
  c : Int
  k : Int
abbrev Ed.vs (e : Ed) : List Value := [.int .i64 e.f, .int .i64 e.t, .int .i64 e.c, .int .i64 e.k]
theorem ed_one (e : Ed) : ∀ v ∈ e.vs, v.oneCell' = true := by
  intro v hv
  simp only [List.mem_cons, List.mem_nil_iff, or_false] at hv
  rcases hv with rfl | rfl | rfl | rfl <;> rfl

/-- w is a graph of n nodes and the first m edges of es. -/
def GrA (h : H) (w : List Value) (n : Int) (m : Nat) (es : Nat → Ed) : Prop :=
  ∃ a c, w = [.int .i64 n, .slice a m c] ∧ ∀ i, i < m → ∃ ad, a = some ad ∧ hcells h (ad.add (i * 4)) (es i).vs
theorem GrA.ext {h h' : H} {w : List Value} {n : Int} {m : Nat} {es : Nat → Ed} (g : GrA h w n m es) (x : Ext h h') : GrA h' w n m es := by
  obtain ⟨a, c, e, k⟩ := g
  refine ⟨a, c, e, fun i hi => ?_⟩
  obtain ⟨ad, e2, hc⟩ := k i hi
  exact ⟨ad, e2, fun j v hj => x.cell (hc j v hj)⟩
theorem GrA.one {h : H} {w : List Value} {n : Int} {m : Nat} {es : Nat → Ed} (g : GrA h w n m es) : w.length = 2 ∧ ∀ v ∈ w, v.oneCell' = true := by
  obtain ⟨a, c, rfl, _⟩ := g
  refine ⟨rfl, fun v hv => ?_⟩
  simp only [List.mem_cons, List.mem_nil_iff, or_false] at hv
  rcases hv with rfl | rfl <;> rfl

/-- The error of an edge among n nodes. -/
def badE (n : Int) (e : Ed) : Int :=
  if e.f < 0 ∨ e.t < 0 ∨ n ≤ e.f ∨ n ≤ e.t then 30 else if e.c < 0 ∨ 1048576 < e.c ∨ e.k < -1048576 ∨ 1048576 < e.k then 31 else 0
/-- The first error of the edges from i on: the number, the place. -/
def badFrom (n : Int) (es : Nat → Ed) (i : Nat) : Nat → Int × Int
  | 0 => (0, 0)
  | k + 1 => if badE n (es i) ≠ 0 then (badE n (es i), i) else badFrom n es (i + 1) k
/-- The fault of a graph. -/
def faultG (n : Int) (m : Nat) (es : Nat → Ed) : Int × Int := if n < 0 ∨ 1024 < n ∨ 4096 < m then (3, 0) else badFrom n es 0 m

end Go.Proofs.YtdcamadeblojdaaGreat

namespace Go.Proofs.YtdcamadeblojdaaGreat
open Go
set_option linter.unusedVariables false

theorem Bl.ed {h : H} {b : Nat} {e : Ed} (B : Bl h b e.vs) : hcell h ((bk b).add 0) = some (.int .i64 e.f) ∧ hcell h ((bk b).add 1) = some (.int .i64 e.t) ∧
    hcell h ((bk b).add 2) = some (.int .i64 e.c) ∧ hcell h ((bk b).add 3) = some (.int .i64 e.k) := ⟨B.ld rfl, B.ld rfl, B.ld rfl, B.ld rfl⟩

theorem glabel_T (h : H) (e : Ed) : T Tryz.prog F.graph_label [.agg ⟨e.vs⟩] h fun r h' =>
    r = .ret (.bool (decide ¬ (e.c < 0 ∨ 1048576 < e.c ∨ e.k < -1048576 ∨ 1048576 < e.k))) ∧ Ext h h' := by
  refine E_graph_label ?_
  unfold B_graph_label
  refine new_bl ?_
  intro b1 g hb x B
  refine ⟨_, B.ed.2.2.1, ifP_of (fun h1 => ?_) (fun h1 => ⟨?_, x⟩)⟩
  · have h1 := of_decide_eq_true h1
    refine ⟨_, B.ed.2.2.1, ifP_of (fun h2 => ?_) (fun h2 => ⟨?_, x⟩)⟩
    · have h2 := of_decide_eq_true h2
      refine ⟨_, B.ed.2.2.2, ifP_of (fun h3 => ?_) (fun h3 => ⟨?_, x⟩)⟩
      · have h3 := of_decide_eq_true h3
        refine ⟨_, B.ed.2.2.2, ?_, x⟩
        congr 2
        exact decide_eq_decide.2 (by omega)
      · have h3 := of_decide_eq_false h3
        rw [decide_eq_false (by omega)]
    · have h2 := of_decide_eq_false h2
      rw [decide_eq_false (by omega)]
  · have h1 := of_decide_eq_false h1
    rw [decide_eq_false (by omega)]

theorem badFrom_good {n : Int} {es : Nat → Ed} {i k : Nat} (h : badE n (es i) = 0) : badFrom n es i (k + 1) = badFrom n es (i + 1) k := by
  show (if badE n (es i) ≠ 0 then _ else _) = _
  rw [if_neg (fun k => k h)]
theorem badFrom_bad {n : Int} {es : Nat → Ed} {i k : Nat} (h : badE n (es i) ≠ 0) : badFrom n es i (k + 1) = (badE n (es i), (i : Int)) := by
  show (if badE n (es i) ≠ 0 then _ else _) = _
  rw [if_pos h]

end Go.Proofs.YtdcamadeblojdaaGreat

namespace Go.Proofs.YtdcamadeblojdaaGreat
open Go
set_option linter.unusedVariables false

section
variable {h : H} {w : List Value} {n : Int} {m : Nat} {es : Nat → Ed}

theorem Check_T (G : GrA h w n m es) : T Tryz.prog F.graph_Check [.agg ⟨w⟩] h fun r h' =>
    r = .ret (.agg ⟨[.int .i64 (faultG n m es).1, .int .i64 (faultG n m es).2]⟩) ∧ Ext h h' := by
  refine E_graph_Check ?_
  unfold B_graph_Check
  refine new_bl ?_
  intro b1 g hb x B
  refine new_bl ?_
  intro b3 g3 hb3 x3 B3
  have G' := G
  obtain ⟨a, c, rfl, hc⟩ := G
  have xh := x.trans' x3
  have B1 := B.ext x3
  have hb3h := x.new hb3
  have c3 : (n < 0 ∨ 1024 < n ∨ 4096 < m) → faultG n m es = (3, 0) := fun h => if_pos h
  have out : ∀ {q : H} {p : Int × Int}, Ext g3 q → (∃ z, z.length = 2 ∧ Bl q b3 z) → faultG n m es = p → stN q (bk b3) [.int .i64 p.1, .int .i64 p.2] 2 fun h8 => ldN h8 (bk b3) 2 fun x9 =>
      Res.ret (.agg ⟨x9⟩) = .ret (.agg ⟨[.int .i64 (faultG n m es).1, .int .i64 (faultG n m es).2]⟩) ∧ Ext h h8 := by
    rintro q p xq ⟨z, hz, Bz⟩ rfl
    refine Bz.stN rfl hz (by simp [Value.oneCell']) ?_
    intro q2 kp B2
    refine B2.ldN rfl ⟨rfl, (xh.trans' xq).of_kp kp hb3h⟩
  refine ⟨fun _ g2 => g3 = g2 ∧ ¬ (n < 0 ∨ 1024 < n ∨ 4096 < m), ?_, ?_⟩
  · refine ⟨_, B1.ld rfl, ifP_of (fun h1 => out (p := (3, 0)) (Ext.refl _) ⟨_, rfl, B3⟩ (c3 (.inl (of_decide_eq_true h1)))) (fun h1 => ?_)⟩
    refine ⟨_, B1.ld rfl, ifP_of (fun h2 => out (p := (3, 0)) (Ext.refl _) ⟨_, rfl, B3⟩ (c3 (.inr (.inl (of_decide_eq_true h2))))) (fun h2 => ?_)⟩
    refine ⟨_, B1.ld rfl, slcP_mk (ifP_of (fun h3 => out (p := (3, 0)) (Ext.refl _) ⟨_, rfl, B3⟩ (c3 (.inr (.inr (by have := of_decide_eq_true h3; omega))))) (fun h3 => ⟨rfl, ?_⟩))⟩
    have := of_decide_eq_false h1
    have := of_decide_eq_false h2
    have := of_decide_eq_false h3
    omega
  · rintro _ ⟨rfl, hn⟩
    have cf : faultG n m es = badFrom n es 0 m := if_neg hn
    refine ⟨_, B1.ld rfl, slcP_mk ?_⟩
    let I11 : (Int × Unit) → H → Nat → Prop := fun s g2 k => ∃ i : Nat, s.1 = i ∧ i ≤ m ∧ k = m - i ∧ Ext g3 g2 ∧ badFrom n es i (m - i) = badFrom n es 0 m
    refine ⟨fun s g2 => ∃ k, I11 s g2 k, rk I11, rk_wf I11, ⟨_, 0, rfl, by omega, rfl, Ext.refl g3, rfl⟩, ?_⟩
    intro s g2 hI
    obtain ⟨i, e1, hi, hk, xg, hf⟩ := mu_spec hI
    generalize hkk : mu I11 ((s, ()), g2) = k at *
    change s = (i : Int) at e1
    subst e1
    have Bg := B1.ext xg
    refine ifP_of (fun h1 => ?_) (fun h1 => ?_)
    · have him : i < m := by have := of_decide_eq_true h1; omega
      obtain ⟨ad, rfl, hcc⟩ := hc i him
      refine ⟨by omega, by omega, ?_⟩
      rw [Int.toNat_natCast]
      refine ⟨(es i).vs, rfl, fun j v hj => (xh.trans' xg).cell (hcc j v hj), ?_⟩
      refine new_bl_st rfl rfl (ed_one _) ?_
      intro b29 g31 hb29 x31 B29
      have x31' := xg.trans' x31
      have B1' := Bg.ext x31
      have Bz : ∃ z : List Value, z.length = 2 ∧ Bl g31 b3 z := ⟨_, rfl, B3.ext x31'⟩
      obtain ⟨j, hj⟩ : ∃ j, m - i = j + 1 := ⟨m - i - 1, by omega⟩
      have bad30 : ((es i).f < 0 ∨ (es i).t < 0 ∨ n ≤ (es i).f ∨ n ≤ (es i).t) → faultG n m es = (30, (i : Int)) := by
        intro hh
        have e30 : badE n (es i) = 30 := if_pos hh
        rw [cf, ← hf, hj, badFrom_bad (by omega), e30]
      refine ⟨_, B29.ed.1, ifP_of (fun h2 => out (p := (30, (i : Int))) x31' Bz (bad30 (.inl (of_decide_eq_true h2)))) (fun h2 => ?_)⟩
      refine ⟨_, B29.ed.1, _, B1'.ld rfl, ifP_of (fun h3 => out (p := (30, (i : Int))) x31' Bz (bad30 (.inr (.inr (.inl (of_decide_eq_true h3)))))) (fun h3 => ?_)⟩
      refine ⟨_, B29.ed.2.1, ifP_of (fun h4 => out (p := (30, (i : Int))) x31' Bz (bad30 (.inr (.inl (of_decide_eq_true h4))))) (fun h4 => ?_)⟩
      refine ⟨_, B29.ed.2.1, _, B1'.ld rfl, ifP_of (fun h5 => out (p := (30, (i : Int))) x31' Bz (bad30 (.inr (.inr (.inr (of_decide_eq_true h5)))))) (fun h5 => ?_)⟩
      have n30 : ¬ ((es i).f < 0 ∨ (es i).t < 0 ∨ n ≤ (es i).f ∨ n ≤ (es i).t) := by
        have := of_decide_eq_false h2
        have := of_decide_eq_false h3
        have := of_decide_eq_false h4
        have := of_decide_eq_false h5
        omega
      refine B29.ldN rfl ?_
      refine (glabel_T g31 (es i)).mono ?_
      rintro _ g48 ⟨rfl, x48⟩
      refine ⟨_, rfl, ifP_of (fun h6 => ?_) (fun h6 => ?_)⟩
      · refine out (p := (31, (i : Int))) (x31'.trans' x48) ⟨_, rfl, B3.ext (x31'.trans' x48)⟩ ?_
        have e31 : badE n (es i) = 31 := by
          unfold badE
          rw [if_neg n30, if_pos (by simpa using h6)]
        rw [cf, ← hf, hj, badFrom_bad (by omega), e31]
      · have e0 : badE n (es i) = 0 := by
          unfold badE
          rw [if_neg n30, if_neg (by simpa using h6)]
        rw [i64_inc (by omega)]
        refine mu_next (I := I11) (k := m - (i + 1)) ⟨i + 1, rfl, him, rfl, x31'.trans' x48, ?_⟩ (by rw [hkk, hk]; omega)
        rw [← hf, hj, badFrom_good e0]
        congr 1; omega
    · have : i = m := by have := of_decide_eq_false h1; omega
      subst this
      refine out (p := (0, 0)) xg ⟨_, rfl, B3.ext xg⟩ ?_
      rw [cf, ← hf, Nat.sub_self]
      rfl
end

end Go.Proofs.YtdcamadeblojdaaGreat

namespace Go.Proofs.YtdcamadeblojdaaGreat
open Go
set_option linter.unusedVariables false

/-- The error's number of a graph and a node. -/
def wrongC (n : Int) (m : Nat) (es : Nat → Ed) (s : Int) : Int := if (faultG n m es).1 = 0 then (if 0 ≤ s ∧ s < n then 0 else 30) else (faultG n m es).1
def endsC (n : Int) (m : Nat) (es : Nat → Ed) (s t : Int) : Int :=
  if wrongC n m es s = 0 then (if wrongC n m es t = 0 then (if s = t then 120 else 0) else wrongC n m es t) else wrongC n m es s
def wrong13 (n : Int) (m : Nat) (es : Nat → Ed) (s t k : Int) : Int := if endsC n m es s t = 0 then (if 1 ≤ k ∧ k ≤ 3 then 0 else 50) else endsC n m es s t

end Go.Proofs.YtdcamadeblojdaaGreat

namespace Go.Proofs.YtdcamadeblojdaaGreat
open Go
set_option linter.unusedVariables false
set_option linter.unusedSimpArgs false

abbrev Own := Nat → Nat
theorem oneP_mk {a : Option Addr} {l c : Nat} {K : Prop} (k : K) : oneP (.slice a l c) K := k
theorem oneP_ptr {a : Option Addr} {K : Prop} (k : K) : oneP (.pointer a) K := k
theorem ptrP_mk {a : Addr} {K : Addr → Prop} (k : K a) : ptrP (.pointer (some a)) K := k
/-- A new block gets an owner. -/
def own1 (own : Own) (b i : Nat) : Own := fun c => if c = b then i else own c
theorem own1_at {own : Own} {b i : Nat} : own1 own b i b = i := if_pos rfl
theorem own1_ne {own : Own} {b i c : Nat} (h : c ≠ b) : own1 own b i c = own c := if_neg h
/-- From h to h': only blocks whose owner is in M may have changed. -/
structure Fm (M : List Nat) (own : Own) (h : H) (own' : Own) (h' : H) : Prop where
  keep : ∀ b o, h b = some o → own b ∉ M → h' b = some o
  stay : ∀ b o, h b = some o → (∃ o', h' b = some o') ∧ own' b = own b
theorem Fm.refl {M : List Nat} {own : Own} {h : H} : Fm M own h own h := ⟨fun _ _ e _ => e, fun b o e => ⟨⟨o, e⟩, rfl⟩⟩
theorem Fm.trans {M : List Nat} {o1 o2 o3 : Own} {h1 h2 h3 : H} (a : Fm M o1 h1 o2 h2) (b : Fm M o2 h2 o3 h3) : Fm M o1 h1 o3 h3 := by
  refine ⟨fun c o e n => b.keep c o (a.keep c o e n) ?_, fun c o e => ?_⟩
  · rw [(a.stay c o e).2]; exact n
  · obtain ⟨⟨o', e'⟩, t⟩ := a.stay c o e
    obtain ⟨x, t'⟩ := b.stay c o' e'
    exact ⟨x, t'.trans t⟩
theorem Fm.mono {M M' : List Nat} {o1 o2 : Own} {h1 h2 : H} (a : Fm M o1 h1 o2 h2) (s : M ⊆ M') : Fm M' o1 h1 o2 h2 :=
  ⟨fun c o e n => a.keep c o e fun k => n (s k), a.stay⟩
theorem Fm.of_ext {M : List Nat} {own : Own} {h h' : H} (x : Ext h h') : Fm M own h own h' := ⟨fun b o e _ => x b o e, fun b o e => ⟨⟨o, x b o e⟩, rfl⟩⟩
theorem Fm.new {M : List Nat} {own : Own} {h h' : H} {b i : Nat} (x : Ext h h') (hb : h b = none) : Fm M own h (own1 own b i) h' :=
  ⟨fun b o e _ => x b o e, fun c o e => ⟨⟨o, x c o e⟩, own1_ne (by rintro rfl; rw [hb] at e; cases e)⟩⟩
theorem Fm.kp {own : Own} {h h' : H} {b i : Nat} (k : Kp b h h') (hb : own b = i) (ho : ∃ o, h' b = some o) : Fm [i] own h own h' := by
  refine ⟨fun c o e n => k c o ?_ e, fun c o e => ⟨?_, rfl⟩⟩
  · rintro rfl; rw [hb] at n; simp at n
  · by_cases hc : c = b
    · subst hc; exact ho
    · exact ⟨o, k c o hc e⟩
/-- What was there at first is there, with owner 0. -/
structure Bs (h0 : H) (own : Own) (h : H) : Prop where
  ext : Ext h0 h
  old : ∀ b o, h0 b = some o → own b = 0
theorem Bs.fm {h0 h h' : H} {own own' : Own} {M : List Nat} (B : Bs h0 own h) (F : Fm M own h own' h') (hM : 0 ∉ M) : Bs h0 own' h' := by
  refine ⟨fun b o e => F.keep b o (B.ext b o e) ?_, fun b o e => ?_⟩
  · rw [B.old b o e]; exact hM
  · rw [(F.stay b o (B.ext b o e)).2]; exact B.old b o e
theorem Bs.start {h : H} : Bs h (fun _ => 0) h := ⟨Ext.refl h, fun _ _ _ => rfl⟩

/-- The block b is the i-th owner's and holds vs. -/
structure B1 (own : Own) (h : H) (i b : Nat) (vs : List Value) : Prop where
  own_ : own b = i
  bl : Bl h b vs
theorem B1.fm {own own' : Own} {h h' : H} {i b : Nat} {vs : List Value} {M : List Nat} (B : B1 own h i b vs) (F : Fm M own h own' h') (hM : i ∉ M) : B1 own' h' i b vs := by
  obtain ⟨e, o, k⟩ := B
  exact ⟨(F.stay b _ k).2.trans e, o, F.keep b _ k (by rw [e]; exact hM)⟩
theorem B1.new {own : Own} {h : H} {i b : Nat} {vs : List Value} (B : Bl h b vs) : B1 (own1 own b i) h i b vs := ⟨own1_at, B⟩
theorem B1.ld {own : Own} {h : H} {i b j : Nat} {vs : List Value} {v : Value} (B : B1 own h i b vs) (hi : vs[j]? = some v) : hcell h ((bk b).add j) = some v := B.bl.ld hi
theorem B1.st {own : Own} {h : H} {i b j : Nat} {vs : List Value} {x : Value} {K : H → Prop} (B : B1 own h i b vs) (hj : j < vs.length)
    (k : ∀ g, Fm [i] own h own g → B1 own g i b (vs.set j x) → K g) : stC h ((bk b).add j) x K :=
  B.bl.stC hj fun g kp B' => k g (Fm.kp kp B.own_ (let ⟨e, k⟩ := B'; ⟨_, k⟩)) ⟨B.own_, B'⟩
theorem B1.ldN {own : Own} {h : H} {i b n : Nat} {vs : List Value} {K : List Value → Prop} (B : B1 own h i b vs) (hn : vs.length = n) (k : K vs) : ldN h (bk b) n K := B.bl.ldN hn k
theorem B1.stN {own : Own} {h : H} {i b n : Nat} {vs ws : List Value} {K : H → Prop} (B : B1 own h i b vs) (hn : ws.length = n) (hv : vs.length = n) (one : ∀ v ∈ ws, v.oneCell' = true)
    (k : ∀ g, Fm [i] own h own g → B1 own g i b ws → K g) : stN h (bk b) ws n K :=
  B.bl.stN hn hv one fun g kp B' => k g (Fm.kp kp B.own_ (let ⟨e, k⟩ := B'; ⟨_, k⟩)) ⟨B.own_, B'⟩

/-- The slice v holds vs; its block is the i-th owner's. -/
def S1 (own : Own) (h : H) (i : Nat) (v : Value) (vs : List Value) : Prop :=
  (vs = [] ∧ v = .slice none 0 0) ∨ ∃ b, own b = i ∧ Sl h b v vs
theorem S1.nil {own : Own} {h : H} {i : Nat} : S1 own h i (.slice none 0 0) [] := .inl ⟨rfl, rfl⟩
theorem S1.fm {own own' : Own} {h h' : H} {i : Nat} {v : Value} {vs : List Value} {M : List Nat} (s : S1 own h i v vs) (F : Fm M own h own' h') (hM : i ∉ M) : S1 own' h' i v vs := by
  rcases s with s | ⟨b, hb, c, e, zs, h1, h2, h3⟩
  · exact .inl s
  · exact .inr ⟨b, (F.stay b _ h2).2.trans hb, c, e, zs, h1, F.keep b _ h2 (by rw [hb]; exact hM), h3⟩
theorem S1.shape {own : Own} {h : H} {i : Nat} {v : Value} {vs : List Value} (s : S1 own h i v vs) : ∃ a c, v = .slice a vs.length c := by
  rcases s with ⟨rfl, rfl⟩ | ⟨b, hb, c, e, zs, h1, h2, h3⟩
  · exact ⟨_, _, rfl⟩
  · exact ⟨_, _, h1⟩
theorem S1.isS {own : Own} {h : H} {i : Nat} {v : Value} {vs : List Value} (s : S1 own h i v vs) : ∃ a l c, v = .slice a l c := let ⟨a, c, e⟩ := s.shape; ⟨a, _, c, e⟩
theorem S1.one {own : Own} {h : H} {i : Nat} {v : Value} {vs : List Value} (s : S1 own h i v vs) : v.oneCell' = true := slc_one s.isS
theorem S1.len {own : Own} {h : H} {i l : Nat} {v : Value} {vs : List Value} {K : Option Addr → Nat → Nat → Prop} (s : S1 own h i v vs) (hl : vs.length = l) (k : ∀ a c, K a l c) : slcP v K := by
  obtain ⟨a, c, rfl⟩ := s.shape
  rw [hl]; exact k _ _
theorem S1.at {own : Own} {h : H} {i j : Nat} {v x : Value} {vs : List Value} {K : Addr → Prop} (s : S1 own h i v vs) (hj : vs[j]? = some x)
    (k : ∀ a : Addr, hcell h a = some x → K a) : ixS v (j : Int) 1 K := by
  have hl := (List.getElem?_eq_some_iff.1 hj).1
  rcases s with ⟨rfl, rfl⟩ | ⟨b, hb, s⟩
  · simp at hl
  · have g := s.get hj
    obtain ⟨c, e, zs, h1, h2, h3⟩ := s
    subst h1
    exact nx hl (k _ g)
theorem S1.rd {own : Own} {h : H} {i j : Nat} {v : Value} {x : Int} {vs : List Value} {K : Int → Prop} (s : S1 own h i v vs) (hj : vs[j]? = some (.int .i64 x))
    (k : K x) : ixS v (j : Int) 1 fun a => ldI h a .i64 K := s.at hj fun a e => ⟨x, e, k⟩
theorem S1.rdI {own : Own} {h : H} {i j n : Nat} {v : Value} {f : Nat → Int} {K : Int → Prop} (s : S1 own h i v (ints n f)) (hj : j < n) (k : K (f j)) :
    ixS v (j : Int) 1 fun a => ldI h a .i64 K := s.rd (ints_get hj) k
theorem S1.rdV {own : Own} {h : H} {i j n : Nat} {v : Value} {f : Nat → Value} {K : Value → Prop} (s : S1 own h i v (va n f)) (hj : j < n) (k : K (f j)) :
    ixS v (j : Int) 1 fun a => ldV h a K := s.at (va_get hj) fun a e => ⟨_, e, k⟩
theorem S1.set {own : Own} {h : H} {i j : Nat} {v x : Value} {vs : List Value} {K : H → Prop} (s : S1 own h i v vs) (hj : j < vs.length)
    (k : ∀ g, Fm [i] own h own g → S1 own g i v (vs.set j x) → K g) : ixS v (j : Int) 1 fun a => stC h a x K := by
  rcases s with ⟨rfl, rfl⟩ | ⟨b, hb, s⟩
  · simp at hj
  · obtain ⟨c, e, zs, h1, h2, h3⟩ := s
    subst h1
    refine nx hj ?_
    rw [bk_add]
    have e2 : hset h ⟨b, j * 1, none⟩ [x] b = some (.cells ⟨vs.set j x ++ zs⟩ e (0, 0)) := by
      unfold hset
      rw [if_pos rfl, h2]
      simp only [Option.map_some, setR, Nat.mul_one]
      rw [List.setIfInBounds_toArray, List.set_append_left _ _ hj]
    refine ⟨⟨_, _, h2, rfl, ?_⟩, k _ (Fm.kp (b := b) ?_ hb ⟨_, e2⟩) (.inr ⟨b, hb, c, e, zs, by rw [List.length_set], e2, by rw [List.length_set]; exact h3⟩)⟩
    · simp only [List.size_toArray, List.length_append]; omega
    · intro j o hj hh
      unfold hset
      rw [if_neg hj]; exact hh
theorem S1.setI {own : Own} {h : H} {i j n : Nat} {v : Value} {f : Nat → Int} {x : Int} {K : H → Prop} (s : S1 own h i v (ints n f)) (hj : j < n)
    (k : ∀ g, Fm [i] own h own g → S1 own g i v (ints n (upd f j x)) → K g) : ixS v (j : Int) 1 fun a => stC h a (.int .i64 x) K :=
  s.set (by rw [ints_length]; exact hj) fun g F s' => k g F (by rw [← ints_set]; exact s')
theorem S1.setV {own : Own} {h : H} {i j n : Nat} {v x : Value} {f : Nat → Value} {K : H → Prop} (s : S1 own h i v (va n f)) (hj : j < n)
    (k : ∀ g, Fm [i] own h own g → S1 own g i v (va n (updV f j x)) → K g) : ixS v (j : Int) 1 fun a => stC h a x K :=
  s.set (by rw [va_length]; exact hj) fun g F s' => k g F (by rw [← va_set]; exact s')

/-- What is appended to a slice. -/
theorem S1.push {own : Own} {h : H} {i l ex : Nat} {p z : Value} {vs new : List Value} {K : Nat → H → Value → H → Prop} {e bytes : Nat} (s : S1 own h i p vs)
    (hnl : new.length = l) (one : ∀ v ∈ new, v.oneCell' = true) (hne : new ≠ []) (hb : bytes ≤ 8) (hl : vs.length + l < 1000000)
    (k : ∀ bx hm p' own' h', h bx = none → Ext h hm → Fm [i] own h own' h' → S1 own' h' i p' (vs ++ new) → K bx hm p' h') :
    newP h (.cells ⟨new⟩ ex (0, 0)) fun bx hm => apP p (.slice (some (bk bx)) l l) hm 1 e bytes [z] (K bx hm) := by
  subst hnl
  refine new_put ?_
  intro bx hm hbx xm hx
  have hsrc : srcP hm (some (bk bx)) (new.length * 1) new := by
    refine ⟨by rw [Nat.mul_one], fun j v hj => ?_⟩
    rw [bk_add, hcell_at hx, List.getElem?_toArray]
    exact hj
  have hzl : ∀ m, (zrep [z] m).length = m := by intro m; simp [zrep]
  have npos : 0 < new.length := List.length_pos_iff.2 hne
  rcases s with ⟨rfl, rfl⟩ | ⟨b, hob, c, eb, zs, rfl, h2, h3⟩
  · refine ⟨new, hsrc, fun hle => by omega, fun hlt => ⟨?_, [], ⟨rfl, rfl⟩, fun cap hcap => ?_⟩⟩
    · have := nextcap_le hlt
      calc _ ≤ (2 * (0 + new.length) + 192) * bytes := Nat.mul_le_mul_right _ this
        _ ≤ (2 * (0 + new.length) + 192) * 8 := Nat.mul_le_mul_left _ hb
        _ ≤ _ := by simp at hl; omega
    · refine new_put ?_
      intro b g hbn x e1
      rw [Nat.zero_add] at e1 hcap ⊢
      refine k bx hm _ (own1 own b i) g hbx xm (Fm.new (xm.trans' x) (xm.new hbn)) (.inr ⟨b, own1_at, cap, e, zrep [z] (cap - new.length), rfl, by rw [e1], ?_⟩)
      rw [hzl]; simp; omega
  · have h2m := xm _ _ h2
    refine ⟨new, hsrc, fun hle => ⟨fun _ => ?_, one, ?_⟩, fun hlt => ⟨?_, vs, ⟨by rw [Nat.mul_one], ?_⟩, fun cap hcap => ?_⟩⟩
    · rw [bk_add]
      refine ⟨_, _, h2m, rfl, ?_⟩
      simp only [List.size_toArray, List.length_append]
      omega
    · rw [bk_add]
      have e2 : hset hm ⟨b, vs.length * 1, none⟩ new b = some (.cells ⟨vs ++ new ++ zs.drop new.length⟩ eb (0, 0)) := by
        unfold hset
        rw [if_pos rfl, h2m]
        simp only [Option.map_some, Nat.mul_one]
        rw [setR_list _ _ _ (by simp; omega)]
        simp [List.take_append, List.drop_append]
      refine k bx hm _ own _ hbx xm ((Fm.of_ext xm).trans (Fm.kp (b := b) ?_ hob ⟨_, e2⟩)) (.inr ⟨b, hob, c, eb, zs.drop new.length, by simp, e2, by simp; omega⟩)
      intro j o hj hh
      unfold hset
      rw [if_neg hj]; exact hh
    · have := nextcap_le hlt
      calc _ ≤ (2 * (vs.length + new.length) + 192) * bytes := Nat.mul_le_mul_right _ this
        _ ≤ (2 * (vs.length + new.length) + 192) * 8 := Nat.mul_le_mul_left _ hb
        _ ≤ _ := by omega
    · intro j v hj
      rw [bk_add, hcell_at h2m, List.getElem?_toArray]
      have := (List.getElem?_eq_some_iff.1 hj).1
      rw [List.getElem?_append_left this]
      exact hj
    · refine new_put ?_
      intro b' g hbn x e1
      refine k bx hm _ (own1 own b' i) g hbx xm (Fm.new (xm.trans' x) (xm.new hbn)) (.inr ⟨b', own1_at, cap, e, zrep [z] (cap - (vs.length + new.length)), by simp, by rw [e1], ?_⟩)
      rw [hzl]; simp; omega
/-- n cells of the same. -/
theorem zrep_one (z : Value) (n : Nat) : zrep [z] n = va n fun _ => z := by
  unfold zrep va
  induction n with
  | zero => rfl
  | succ n ih => rw [List.replicate_succ', List.range_succ, List.flatten_append, ih, List.map_append]; rfl
theorem mk_S1 {h : H} {n bytes e : Nat} {z : Value} {K : Nat → H → Prop} (i : Nat) (hn : n ≤ 1000000) (hb : bytes ≤ 64)
    (k : ∀ b g, h b = none → Ext h g → (∀ own, S1 (own1 own b i) g i (.slice (some (bk b)) n n) (va n fun _ => z)) → K b g) : mkS (n : Int) (n : Int) bytes [z] e h K := by
  refine ⟨by omega, Int.le_refl _, ?_, by omega, ?_⟩
  · have : n * bytes ≤ 1000000 * 64 := Nat.mul_le_mul hn hb
    have e : ((n : Int) * bytes) = ((n * bytes : Nat) : Int) := by simp
    rw [e]; omega
  · refine new_put ?_
    intro b g hb x e1
    refine k b g hb x fun own => .inr ⟨b, own1_at, n, e, [], by rw [va_length], ?_, by rw [va_length]; rfl⟩
    rw [e1, Int.toNat_natCast, zrep_one, List.append_nil]
theorem mk_ints {h : H} {n bytes e : Nat} {K : Nat → H → Prop} (i : Nat) (hn : n ≤ 1000000) (hb : bytes ≤ 64)
    (k : ∀ b g, h b = none → Ext h g → (∀ own, S1 (own1 own b i) g i (.slice (some (bk b)) n n) (ints n fun _ => 0)) → K b g) : mkS (n : Int) (n : Int) bytes [.int .i64 0] e h K :=
  mk_S1 i hn hb k

def bools (n : Nat) (f : Nat → Bool) : List Value := va n fun i => .bool (f i)
def updB (f : Nat → Bool) (i : Nat) (x : Bool) : Nat → Bool := fun j => if j = i then x else f j
theorem bools_length (n : Nat) (f : Nat → Bool) : (bools n f).length = n := va_length _ _
theorem S1.rdB {own : Own} {h : H} {i j n : Nat} {v : Value} {f : Nat → Bool} {K : Bool → Prop} (s : S1 own h i v (bools n f)) (hj : j < n) (k : K (f j)) :
    ixS v (j : Int) 1 fun a => ldB h a K := s.at (va_get hj) fun a e => ⟨_, e, k⟩
theorem S1.setB {own : Own} {h : H} {i j n : Nat} {v : Value} {f : Nat → Bool} {x : Bool} {K : H → Prop} (s : S1 own h i v (bools n f)) (hj : j < n)
    (k : ∀ g, Fm [i] own h own g → S1 own g i v (bools n (updB f j x)) → K g) : ixS v (j : Int) 1 fun a => stC h a (.bool x) K :=
  S1.setV s hj fun g F s' => k g F (by
    have : updV (fun i => Value.bool (f i)) j (.bool x) = fun i => .bool (updB f j x i) := by
      funext l; unfold updV updB; split <;> rfl
    rw [this] at s'; exact s')
theorem mk_bools {h : H} {n bytes e : Nat} {K : Nat → H → Prop} (i : Nat) (hn : n ≤ 1000000) (hb : bytes ≤ 64)
    (k : ∀ b g, h b = none → Ext h g → (∀ own, S1 (own1 own b i) g i (.slice (some (bk b)) n n) (bools n fun _ => false)) → K b g) : mkS (n : Int) (n : Int) bytes [.bool false] e h K :=
  mk_S1 i hn hb k
theorem S1.ext {own : Own} {h h' : H} {i : Nat} {v : Value} {vs : List Value} (s : S1 own h i v vs) (x : Ext h h') : S1 own h' i v vs := s.fm (M := []) (Fm.of_ext x) (by simp)
theorem B1.ext {own : Own} {h h' : H} {i b : Nat} {vs : List Value} (s : B1 own h i b vs) (x : Ext h h') : B1 own h' i b vs := s.fm (M := []) (Fm.of_ext x) (by simp)
theorem Bs.ext_ {h0 h h' : H} {own : Own} (B : Bs h0 own h) (x : Ext h h') : Bs h0 own h' := ⟨B.ext.trans' x, B.old⟩
theorem Bs.new {h0 h h' : H} {own : Own} {b i : Nat} (B : Bs h0 own h) (x : Ext h h') (hb : h b = none) : Bs h0 (own1 own b i) h' := B.fm (M := []) (Fm.new x hb) (by simp)
theorem S1.new {own : Own} {h h' : H} {i j b : Nat} {v : Value} {vs : List Value} (s : S1 own h i v vs) (x : Ext h h') (hb : h b = none) : S1 (own1 own b j) h' i v vs := s.fm (M := []) (Fm.new x hb) (by simp)
theorem B1.newo {own : Own} {h h' : H} {i j b c : Nat} {vs : List Value} (s : B1 own h i c vs) (x : Ext h h') (hb : h b = none) : B1 (own1 own b j) h' i c vs := s.fm (M := []) (Fm.new x hb) (by simp)
theorem sameAt_b1 {own own' : Own} {g g' : H} {b j n c d : Nat} {vs : List Value} (B : B1 own g c b vs) (B' : B1 own' g' d b vs) : sameAt n ((bk b).add j) g g' := sameAt_bl B.bl B'.bl
theorem Bs.nw {h0 h h' : H} {own : Own} {b j : Nat} (B : Bs h0 own h) (x : Ext h h') (hb : h b = none) : Bs h0 (own1 own b j) h' := B.new x hb
theorem S1.nw {own : Own} {h h' : H} {i j b : Nat} {v : Value} {vs : List Value} (s : S1 own h i v vs) (x : Ext h h') (hb : h b = none) : S1 (own1 own b j) h' i v vs := s.new x hb
theorem B1.nw {own : Own} {h h' : H} {i j b c : Nat} {vs : List Value} (s : B1 own h i c vs) (x : Ext h h') (hb : h b = none) : B1 (own1 own b j) h' i c vs := s.newo x hb
theorem S1.setO {own : Own} {h : H} {i j n : Nat} {v x : Value} {f : Nat → Value} {K : H → Prop} (s : S1 own h i v (va n f)) (hj : j < n) (hx : ∃ a l c, x = .slice a l c)
    (k : ∀ g, Fm [i] own h own g → S1 own g i v (va n (updV f j x)) → K g) : ixS v (j : Int) 1 fun a => oneP x (stC h a x K) := by
  obtain ⟨_, _, _, rfl⟩ := hx
  exact s.setV hj k
theorem S1.sl {own : Own} {h : H} {i b l c : Nat} {vs : List Value} (s : S1 own h i (.slice (some (bk b)) l c) vs) : Sl h b (.slice (some (bk b)) l c) vs ∧ own b = i := by
  rcases s with ⟨_, e⟩ | ⟨b', hb, s⟩
  · cases e
  · have s' := s
    obtain ⟨c', e, zs, h1, h2, h3⟩ := s
    simp only [Value.slice.injEq, Option.some.injEq, bk, Addr.mk.injEq] at h1
    obtain ⟨⟨rfl, _⟩, _⟩ := h1
    exact ⟨s', hb⟩
theorem S1.of {h : H} {i b : Nat} {v : Value} {vs : List Value} (s : Sl h b v vs) (own : Own) : S1 (own1 own b i) h i v vs := .inr ⟨b, own1_at, s⟩

end Go.Proofs.YtdcamadeblojdaaGreat

namespace Go.Proofs.YtdcamadeblojdaaGreat
open Go
open Classical
set_option linter.unusedVariables false

def sumN : Nat → (Nat → Int) → Int
  | 0, _ => 0
  | k + 1, f => sumN k f + f k
theorem sumN_congr {f g : Nat → Int} : ∀ {k : Nat}, (∀ i, i < k → f i = g i) → sumN k f = sumN k g
  | 0, _ => rfl
  | k + 1, h => by
    show sumN k f + f k = sumN k g + g k
    rw [sumN_congr fun i hi => h i (by omega), h k (by omega)]
theorem sumN_add {f g : Nat → Int} : ∀ {k : Nat}, sumN k (fun i => f i + g i) = sumN k f + sumN k g
  | 0 => rfl
  | k + 1 => by
    show sumN k (fun i => f i + g i) + (f k + g k) = sumN k f + f k + (sumN k g + g k)
    rw [sumN_add]; omega
theorem sumN_sub {f g : Nat → Int} : ∀ {k : Nat}, sumN k (fun i => f i - g i) = sumN k f - sumN k g
  | 0 => rfl
  | k + 1 => by
    show sumN k (fun i => f i - g i) + (f k - g k) = sumN k f + f k - (sumN k g + g k)
    rw [sumN_sub]; omega
theorem sumN_mul {c : Int} {f : Nat → Int} : ∀ {k : Nat}, sumN k (fun i => c * f i) = c * sumN k f
  | 0 => by simp [sumN]
  | k + 1 => by
    show sumN k (fun i => c * f i) + c * f k = c * (sumN k f + f k)
    rw [sumN_mul, Int.mul_add]
theorem sumN_zero {f : Nat → Int} : ∀ {k : Nat}, (∀ i, i < k → f i = 0) → sumN k f = 0
  | 0, _ => rfl
  | k + 1, h => by
    show sumN k f + f k = 0
    rw [sumN_zero fun i hi => h i (by omega), h k (by omega)]; rfl
theorem sumN_le {f g : Nat → Int} : ∀ {k : Nat}, (∀ i, i < k → f i ≤ g i) → sumN k f ≤ sumN k g
  | 0, _ => Int.le_refl _
  | k + 1, h => by
    show sumN k f + f k ≤ sumN k g + g k
    have := sumN_le (k := k) fun i hi => h i (by omega)
    have := h k (by omega)
    omega
theorem sumN_nonneg {f : Nat → Int} {k : Nat} (h : ∀ i, i < k → 0 ≤ f i) : 0 ≤ sumN k f := by
  have := sumN_le (f := fun _ => 0) (g := f) h
  rwa [sumN_zero fun _ _ => rfl] at this
theorem sumN_const {c : Int} : ∀ {k : Nat}, sumN k (fun _ => c) = k * c
  | 0 => by simp [sumN]
  | k + 1 => by
    show sumN k (fun _ => c) + c = _
    rw [sumN_const, Int.natCast_add, Int.add_mul]; simp
theorem sumN_bd {c : Int} {f : Nat → Int} {k : Nat} (h : ∀ i, i < k → f i ≤ c) : sumN k f ≤ k * c := by
  rw [← sumN_const]; exact sumN_le h
/-- All are 0 if none is below 0 and the sum is not above 0. -/
theorem sumN_all0 {f : Nat → Int} : ∀ {k : Nat}, (∀ i, i < k → 0 ≤ f i) → sumN k f ≤ 0 → ∀ i, i < k → f i = 0
  | 0, _, _ => fun i hi => by omega
  | k + 1, h, h0 => by
    have h0 : sumN k f + f k ≤ 0 := h0
    have a := sumN_nonneg (k := k) fun i hi => h i (by omega)
    have b := h k (by omega)
    intro i hi
    by_cases e : i = k
    · subst e; omega
    · exact sumN_all0 (k := k) (fun i hi => h i (by omega)) (by omega) i (by omega)
theorem sumN_mem {f : Nat → Int} {k i : Nat} (h : ∀ i, i < k → 0 ≤ f i) (hi : i < k) : f i ≤ sumN k f := by
  induction k with
  | zero => omega
  | succ k ih =>
    show f i ≤ sumN k f + f k
    have a := sumN_nonneg (k := k) fun i hi => h i (by omega)
    have b := h k (by omega)
    by_cases e : i = k
    · subst e; omega
    · have := ih (fun i hi => h i (by omega)) (by omega); omega
theorem sumN_swap {f : Nat → Nat → Int} {b : Nat} : ∀ {a : Nat}, sumN a (fun i => sumN b fun j => f i j) = sumN b fun j => sumN a fun i => f i j
  | 0 => (sumN_zero fun _ _ => rfl).symm
  | a + 1 => by
    show sumN a (fun i => sumN b fun j => f i j) + sumN b (fun j => f a j) = _
    rw [sumN_swap, ← sumN_add]; rfl
theorem sumN_pt {x : Int} {j : Nat} : ∀ {k : Nat}, sumN k (fun i => if j = i then x else 0) = if j < k then x else 0
  | 0 => rfl
  | k + 1 => by
    show sumN k (fun i => if j = i then x else 0) + (if j = k then x else 0) = _
    rw [sumN_pt]
    by_cases h1 : j < k
    · rw [if_pos h1, if_neg (by omega), if_pos (by omega)]; omega
    · by_cases h2 : j = k
      · rw [if_neg h1, if_pos h2, if_pos (by omega)]; omega
      · rw [if_neg h1, if_neg h2, if_neg (by omega)]; rfl
theorem sumN_ptf {f : Nat → Int} {j k : Nat} (hj : j < k) : sumN k (fun i => if j = i then f i else 0) = f j := by
  have : sumN k (fun i => if j = i then f i else 0) = sumN k (fun i => if j = i then f j else 0) := sumN_congr fun i _ => by
    by_cases e : j = i
    · subst e; rfl
    · rw [if_neg e, if_neg e]
  rw [this, sumN_pt, if_pos hj]
theorem sumN_upd {f : Nat → Int} {i k : Nat} {x : Int} (hi : i < k) : sumN k (upd f i x) = sumN k f - f i + x := by
  have : sumN k (upd f i x) = sumN k (fun j => f j + (if i = j then x - f i else 0)) := sumN_congr fun j _ => by
    unfold upd
    by_cases e : j = i
    · subst e; rw [if_pos rfl, if_pos rfl]; omega
    · rw [if_neg e, if_neg (fun h => e h.symm)]; omega
  rw [this, sumN_add, sumN_pt, if_pos hi]; omega
/-- How much more goes out of a node than comes into it. -/
def OutF (m : Nat) (fr to : Nat → Nat) (f : Nat → Int) (v : Nat) : Int := sumN m fun i => (if fr i = v then f i else 0) - (if to i = v then f i else 0)
structure FlowP (n m : Nat) (fr to : Nat → Nat) (cap : Nat → Int) (s t : Nat) (f : Nat → Int) : Prop where
  cp : ∀ i, i < m → 0 ≤ f i ∧ f i ≤ cap i
  cons : ∀ v, v < n → v ≠ s → v ≠ t → OutF m fr to f v = 0
/-- A step along which more can go. -/
def RsS (m : Nat) (fr to : Nat → Nat) (cap f : Nat → Int) (u v : Nat) : Prop :=
  ∃ i, i < m ∧ ((fr i = u ∧ to i = v ∧ f i < cap i) ∨ (to i = u ∧ fr i = v ∧ 0 < f i))
inductive Rch (R : Nat → Nat → Prop) (s : Nat) : Nat → Prop
  | refl : Rch R s s
  | step {u v : Nat} : Rch R s u → R u v → Rch R s v
theorem Rch.closed {R : Nat → Nat → Prop} {s v : Nat} (r : Rch R s v) {C : Nat → Prop} (hs : C s) (hc : ∀ u v, C u → R u v → C v) : C v := by
  induction r with
  | refl => exact hs
  | step _ h ih => exact hc _ _ ih h
theorem Rch.mono {R R' : Nat → Nat → Prop} {s v : Nat} (h : ∀ u v, R u v → R' u v) (r : Rch R s v) : Rch R' s v := by
  induction r with
  | refl => exact .refl
  | step _ k ih => exact ih.step (h _ _ k)
/-- The capacity of what leaves a side. -/
noncomputable def cutC (m : Nat) (fr to : Nat → Nat) (cap : Nat → Int) (C : Nat → Prop) : Int := sumN m fun i => if C (fr i) ∧ ¬ C (to i) then cap i else 0

section
variable {n m : Nat} {fr to : Nat → Nat} {cap f g : Nat → Int} {s t : Nat}

theorem out_side (hn : ∀ i, i < m → fr i < n ∧ to i < n) (C : Nat → Prop) :
    sumN n (fun v => if C v then OutF m fr to f v else 0) = sumN m fun i => (if C (fr i) then f i else 0) - (if C (to i) then f i else 0) := by
  have e1 : sumN n (fun v => if C v then OutF m fr to f v else 0) =
      sumN n fun v => sumN m fun i => (if fr i = v then (if C (fr i) then f i else 0) else 0) - (if to i = v then (if C (to i) then f i else 0) else 0) := by
    refine sumN_congr fun v _ => ?_
    by_cases hc : C v
    · rw [if_pos hc]
      refine sumN_congr fun i _ => ?_
      by_cases h1 : fr i = v <;> by_cases h2 : to i = v <;> simp [h1, h2, hc]
    · rw [if_neg hc]
      refine (sumN_zero fun i _ => ?_).symm
      by_cases h1 : fr i = v <;> by_cases h2 : to i = v <;> simp [h1, h2, hc]
  rw [e1, sumN_swap]
  refine sumN_congr fun i hi => ?_
  have := hn i hi
  rw [sumN_sub, sumN_pt, sumN_pt, if_pos this.1, if_pos this.2]

/-- All that goes out of all nodes. -/
theorem out_all (hn : ∀ i, i < m → fr i < n ∧ to i < n) : sumN n (fun v => OutF m fr to f v) = 0 := by
  have := out_side (f := f) hn (fun _ => True)
  simp only [if_true] at this
  rw [this]
  exact sumN_zero fun i _ => by omega

/-- What a cut could still bear. -/
noncomputable def gapI (fr to : Nat → Nat) (cap f : Nat → Int) (C : Nat → Prop) (i : Nat) : Int :=
  if C (fr i) ∧ ¬ C (to i) then cap i - f i else if ¬ C (fr i) ∧ C (to i) then f i else 0
theorem FlowP.gap (F : FlowP n m fr to cap s t f) (hn : ∀ i, i < m → fr i < n ∧ to i < n) (hs : s < n) {C : Nat → Prop} (cs : C s) (ct : ¬ C t) :
    cutC m fr to cap C - OutF m fr to f s = sumN m (gapI fr to cap f C) := by
  have e1 : sumN n (fun v => if C v then OutF m fr to f v else 0) = OutF m fr to f s := by
    rw [← sumN_ptf (f := fun v => OutF m fr to f v) hs]
    refine sumN_congr fun v hv => ?_
    by_cases h1 : s = v
    · subst h1; rw [if_pos cs, if_pos rfl]
    · rw [if_neg h1]
      by_cases hc : C v
      · rw [if_pos hc]; exact F.cons v hv (fun h => h1 h.symm) (by rintro rfl; exact ct hc)
      · rw [if_neg hc]
  rw [out_side hn C] at e1
  rw [← e1]
  unfold cutC
  rw [← sumN_sub]
  refine sumN_congr fun i _ => ?_
  unfold gapI
  by_cases h1 : C (fr i) <;> by_cases h2 : C (to i) <;> simp [h1, h2]
theorem FlowP.gap0 (F : FlowP n m fr to cap s t f) (C : Nat → Prop) : ∀ i, i < m → 0 ≤ gapI fr to cap f C i := by
  intro i hi
  have := F.cp i hi
  unfold gapI
  by_cases h1 : C (fr i) <;> by_cases h2 : C (to i) <;> simp [h1, h2] <;> omega
theorem FlowP.le_cut (F : FlowP n m fr to cap s t f) (hn : ∀ i, i < m → fr i < n ∧ to i < n) (hs : s < n) {C : Nat → Prop} (cs : C s) (ct : ¬ C t) :
    OutF m fr to f s ≤ cutC m fr to cap C := by
  have := F.gap hn hs cs ct
  have := sumN_nonneg (F.gap0 C)
  omega
/-- A tight cut: full behind, empty before. -/
theorem FlowP.tight (F : FlowP n m fr to cap s t f) (hn : ∀ i, i < m → fr i < n ∧ to i < n) (hs : s < n) {C : Nat → Prop} (cs : C s) (ct : ¬ C t)
    (h : cutC m fr to cap C ≤ OutF m fr to f s) : ∀ i, i < m → (C (fr i) → ¬ C (to i) → f i = cap i) ∧ (¬ C (fr i) → C (to i) → f i = 0) := by
  have e := F.gap hn hs cs ct
  intro i hi
  have := sumN_all0 (F.gap0 C) (by omega) i hi
  unfold gapI at this
  constructor
  · intro h1 h2
    rw [if_pos ⟨h1, h2⟩] at this; omega
  · intro h1 h2
    rw [if_neg (fun h => h1 h.1), if_pos ⟨h1, h2⟩] at this; exact this
theorem FlowP.tight' (F : FlowP n m fr to cap s t f) (hn : ∀ i, i < m → fr i < n ∧ to i < n) (hs : s < n) {C : Nat → Prop} (cs : C s) (ct : ¬ C t)
    (h : ∀ u v, C u → RsS m fr to cap f u v → C v) : OutF m fr to f s = cutC m fr to cap C := by
  have e := F.gap hn hs cs ct
  have : sumN m (gapI fr to cap f C) = 0 := by
    refine sumN_zero fun i hi => ?_
    have := F.cp i hi
    unfold gapI
    by_cases h1 : C (fr i) ∧ ¬ C (to i)
    · rw [if_pos h1]
      by_cases k : f i < cap i
      · exact absurd (h _ _ h1.1 ⟨i, hi, .inl ⟨rfl, rfl, k⟩⟩) h1.2
      · omega
    · rw [if_neg h1]
      by_cases h2 : ¬ C (fr i) ∧ C (to i)
      · rw [if_pos h2]
        by_cases k : 0 < f i
        · exact absurd (h _ _ h2.2 ⟨i, hi, .inr ⟨rfl, rfl, k⟩⟩) h2.1
        · omega
      · rw [if_neg h2]
  omega

/-- A greatest flow: the sink cannot be reached in what it leaves. -/
structure MaxP (n m : Nat) (fr to : Nat → Nat) (cap : Nat → Int) (s t : Nat) (f : Nat → Int) : Prop where
  fl : FlowP n m fr to cap s t f
  nr : ¬ Rch (RsS m fr to cap f) s t
theorem MaxP.cut (F : MaxP n m fr to cap s t f) (hn : ∀ i, i < m → fr i < n ∧ to i < n) (hs : s < n) :
    OutF m fr to f s = cutC m fr to cap (Rch (RsS m fr to cap f) s) := F.fl.tight' hn hs .refl F.nr fun _ _ a b => a.step b
/-- Whatever cut is no greater than the flow holds all that can be reached. -/
theorem MaxP.sub (F : FlowP n m fr to cap s t f) (hn : ∀ i, i < m → fr i < n ∧ to i < n) (hs : s < n) {C : Nat → Prop} (cs : C s) (ct : ¬ C t)
    (h : cutC m fr to cap C ≤ OutF m fr to f s) {v : Nat} (r : Rch (RsS m fr to cap f) s v) : C v := by
  refine r.closed cs ?_
  rintro u w hu ⟨i, hi, ⟨rfl, rfl, k⟩ | ⟨rfl, rfl, k⟩⟩
  · apply Classical.byContradiction
    intro hw
    have := (F.tight hn hs cs ct h i hi).1 hu hw
    omega
  · apply Classical.byContradiction
    intro hw
    have := (F.tight hn hs cs ct h i hi).2 hw hu
    omega
theorem MaxP.uniq (F : MaxP n m fr to cap s t f) (G : MaxP n m fr to cap s t g) (hn : ∀ i, i < m → fr i < n ∧ to i < n) (hs : s < n) :
    OutF m fr to f s = OutF m fr to g s ∧ ∀ v, Rch (RsS m fr to cap f) s v ↔ Rch (RsS m fr to cap g) s v := by
  have c1 := F.cut hn hs
  have c2 := G.cut hn hs
  have l1 := F.fl.le_cut hn hs (C := Rch (RsS m fr to cap g) s) .refl G.nr
  have l2 := G.fl.le_cut hn hs (C := Rch (RsS m fr to cap f) s) .refl F.nr
  refine ⟨by omega, fun v => ⟨MaxP.sub F.fl hn hs .refl G.nr (by omega), MaxP.sub G.fl hn hs .refl F.nr (by omega)⟩⟩
end

end Go.Proofs.YtdcamadeblojdaaGreat

namespace Go.Proofs.YtdcamadeblojdaaGreat
open Go
set_option linter.unusedVariables false
set_option linter.unusedSimpArgs false

/-- The graph is right. -/
structure Gd (n m : Nat) (es : Nat → Ed) : Prop where
  n1 : n ≤ 1024
  m1 : m ≤ 4096
  f : ∀ i, i < m → ∃ v : Nat, (es i).f = v ∧ v < n
  t : ∀ i, i < m → ∃ v : Nat, (es i).t = v ∧ v < n
  c : ∀ i, i < m → 0 ≤ (es i).c ∧ (es i).c ≤ 1048576
  k : ∀ i, i < m → -1048576 ≤ (es i).k ∧ (es i).k ≤ 1048576
abbrev frE (es : Nat → Ed) (i : Nat) : Nat := (es i).f.toNat
abbrev toE (es : Nat → Ed) (i : Nat) : Nat := (es i).t.toNat
abbrev cpE (es : Nat → Ed) (i : Nat) : Int := (es i).c
theorem badFrom_0 {n : Int} {es : Nat → Ed} : ∀ {k i : Nat}, (badFrom n es i k).1 = 0 → ∀ j, i ≤ j → j < i + k → badE n (es j) = 0
  | 0, i, _, j, h1, h2 => by omega
  | k + 1, i, h, j, h1, h2 => by
    by_cases e : badE n (es i) = 0
    · rw [badFrom_good e] at h
      by_cases e2 : j = i
      · rw [e2]; exact e
      · exact badFrom_0 h j (by omega) (by omega)
    · rw [badFrom_bad e] at h
      exact absurd h e
theorem badFrom_of {n : Int} {es : Nat → Ed} : ∀ {k i : Nat}, (∀ j, i ≤ j → j < i + k → badE n (es j) = 0) → badFrom n es i k = (0, 0)
  | 0, i, _ => rfl
  | k + 1, i, h => by
    rw [badFrom_good (h i (by omega) (by omega))]
    exact badFrom_of fun j h1 h2 => h j (by omega) (by omega)
theorem Gd.of {n : Int} {m : Nat} {es : Nat → Ed} (h : (faultG n m es).1 = 0) : ∃ n' : Nat, n = n' ∧ Gd n' m es := by
  unfold faultG at h
  split at h
  · cases h
  · rename_i h1
    refine ⟨n.toNat, by omega, ?_⟩
    have key : ∀ i, i < m → badE n (es i) = 0 := fun i hi => badFrom_0 h i (by omega) (by omega)
    have key2 : ∀ i, i < m → ¬ ((es i).f < 0 ∨ (es i).t < 0 ∨ n ≤ (es i).f ∨ n ≤ (es i).t) ∧ ¬ ((es i).c < 0 ∨ 1048576 < (es i).c ∨ (es i).k < -1048576 ∨ 1048576 < (es i).k) := by
      intro i hi
      have := key i hi
      unfold badE at this
      split at this
      · cases this
      · split at this
        · cases this
        · exact ⟨by assumption, by assumption⟩
    refine ⟨by omega, by omega, fun i hi => ⟨(es i).f.toNat, ?_, ?_⟩, fun i hi => ⟨(es i).t.toNat, ?_, ?_⟩, fun i hi => ?_, fun i hi => ?_⟩ <;> (have := key2 i hi; omega)
theorem Gd.no {n : Nat} {m : Nat} {es : Nat → Ed} (g : Gd n m es) : faultG n m es = (0, 0) := by
  unfold faultG
  have := g.n1
  have := g.m1
  rw [if_neg (by omega)]
  refine badFrom_of fun j _ hj => ?_
  obtain ⟨v, e, hv⟩ := g.f j (by omega)
  obtain ⟨w, e2, hw⟩ := g.t j (by omega)
  have := g.c j (by omega)
  have := g.k j (by omega)
  unfold badE
  rw [if_neg (by omega), if_neg (by omega)]
theorem Gd.fr {n m : Nat} {es : Nat → Ed} (g : Gd n m es) {i : Nat} (hi : i < m) : (es i).f = (frE es i : Nat) ∧ frE es i < n := by
  obtain ⟨v, e, hv⟩ := g.f i hi
  unfold frE; omega
theorem Gd.to {n m : Nat} {es : Nat → Ed} (g : Gd n m es) {i : Nat} (hi : i < m) : (es i).t = (toE es i : Nat) ∧ toE es i < n := by
  obtain ⟨v, e, hv⟩ := g.t i hi
  unfold toE; omega
theorem Gd.ends {n m : Nat} {es : Nat → Ed} (g : Gd n m es) : ∀ i, i < m → frE es i < n ∧ toE es i < n := fun i hi => ⟨(g.fr hi).2, (g.to hi).2⟩

def tlA (fr to : Nat → Nat) (a : Nat) : Nat := if a % 2 = 0 then fr (a / 2) else to (a / 2)
def hdA (fr to : Nat → Nat) (a : Nat) : Nat := if a % 2 = 0 then to (a / 2) else fr (a / 2)
/-- The arc that takes back. -/
def prA (a : Nat) : Nat := if a % 2 = 0 then a + 1 else a - 1
/-- The arcs out of a node, of the first i edges. -/
def arcsL (fr to : Nat → Nat) : Nat → Nat → List Nat
  | 0, _ => []
  | i + 1, v => arcsL fr to i v ++ ((if fr i = v then [2 * i] else []) ++ (if to i = v then [2 * i + 1] else []))
def natV (l : List Nat) : List Value := l.map fun a => .int .i64 (a : Nat)
theorem mem_arcsL {fr to : Nat → Nat} {a v : Nat} : ∀ {i : Nat}, a ∈ arcsL fr to i v ↔ a < 2 * i ∧ tlA fr to a = v
  | 0 => by simp [arcsL]
  | i + 1 => by
    unfold arcsL
    rw [List.mem_append, mem_arcsL, List.mem_append]
    unfold tlA
    constructor
    · rintro (⟨h1, h2⟩ | h | h)
      · exact ⟨by omega, h2⟩
      · split at h
        · rename_i e
          have : a = 2 * i := by simpa using h
          subst this
          refine ⟨by omega, ?_⟩
          rw [if_pos (by omega), show 2 * i / 2 = i by omega]; exact e
        · simp at h
      · split at h
        · rename_i e
          have : a = 2 * i + 1 := by simpa using h
          subst this
          refine ⟨by omega, ?_⟩
          rw [if_neg (by omega), show (2 * i + 1) / 2 = i by omega]; exact e
        · simp at h
    · rintro ⟨h1, h2⟩
      by_cases e : a < 2 * i
      · exact .inl ⟨e, h2⟩
      · by_cases e2 : a = 2 * i
        · subst e2
          rw [if_pos (by omega), show 2 * i / 2 = i by omega] at h2
          exact .inr (.inl (by rw [if_pos h2]; simp))
        · have e3 : a = 2 * i + 1 := by omega
          subst e3
          rw [if_neg (by omega), show (2 * i + 1) / 2 = i by omega] at h2
          exact .inr (.inr (by rw [if_pos h2]; simp))
theorem arcsL_length {fr to : Nat → Nat} {v : Nat} : ∀ {i : Nat}, (arcsL fr to i v).length ≤ 2 * i
  | 0 => by simp [arcsL]
  | i + 1 => by
    unfold arcsL
    have := arcsL_length (fr := fr) (to := to) (v := v) (i := i)
    simp only [List.length_append]
    have h1 : (if fr i = v then [2 * i] else []).length ≤ 1 := by split <;> simp
    have h2 : (if to i = v then [2 * i + 1] else []).length ≤ 1 := by split <;> simp
    omega
theorem natV_get {l : List Nat} {j : Nat} (hj : j < l.length) : (natV l)[j]? = some (.int .i64 ((l[j] : Nat) : Int)) := by
  unfold natV
  rw [List.getElem?_map, List.getElem?_eq_getElem hj]; rfl
theorem natV_length (l : List Nat) : (natV l).length = l.length := by simp [natV]
theorem prA_lt {a m : Nat} (h : a < 2 * m) : prA a < 2 * m := by unfold prA; split <;> omega
theorem prA_pr (a : Nat) : prA (prA a) = a := by
  unfold prA
  by_cases h : a % 2 = 0
  · rw [if_pos h, if_neg (by omega)]; omega
  · rw [if_neg h, if_pos (by omega)]; omega
theorem prA_ne (a : Nat) : prA a ≠ a := by unfold prA; split <;> omega
theorem tl_pr {fr to : Nat → Nat} (a : Nat) : tlA fr to (prA a) = hdA fr to a := by
  unfold tlA hdA prA
  by_cases h : a % 2 = 0
  · rw [if_pos h, if_pos h, if_neg (by omega), show (a + 1) / 2 = a / 2 by omega]
  · rw [if_neg h, if_neg h, if_pos (by omega), show (a - 1) / 2 = a / 2 by omega]
theorem hd_pr {fr to : Nat → Nat} (a : Nat) : hdA fr to (prA a) = tlA fr to a := by
  have := tl_pr (fr := fr) (to := to) (prA a)
  rw [prA_pr] at this; exact this.symm
theorem tl_lt {fr to : Nat → Nat} {n m : Nat} (hn : ∀ i, i < m → fr i < n ∧ to i < n) {a : Nat} (ha : a < 2 * m) : tlA fr to a < n := by
  have := hn (a / 2) (by omega)
  unfold tlA; split <;> omega
theorem hd_lt {fr to : Nat → Nat} {n m : Nat} (hn : ∀ i, i < m → fr i < n ∧ to i < n) {a : Nat} (ha : a < 2 * m) : hdA fr to a < n := by
  have := hn (a / 2) (by omega)
  unfold hdA; split <;> omega
theorem xor1 {a : Nat} (h : a < 1000000) : bitsI .xor .i64 (a : Int) 1 = ((prA a : Nat) : Int) := by
  have e : bitsI .xor .i64 (a : Int) 1 = IntKind.i64.wrap ((BitVec.ofInt 64 (a : Int) ^^^ BitVec.ofInt 64 1).toNat : Int) := rfl
  have e1 : BitVec.ofInt 64 (a : Int) = BitVec.ofNat 64 a := BitVec.ofInt_natCast 64 a
  have e2 : (BitVec.ofNat 64 a ^^^ BitVec.ofInt 64 1).toNat = prA a := by
    rw [BitVec.toNat_xor, show (BitVec.ofInt 64 1).toNat = 1 from rfl, BitVec.toNat_ofNat, Nat.mod_eq_of_lt (by omega)]
    have h1 : (a ^^^ 1) / 2 = a / 2 := by rw [Nat.xor_div_two]; simp
    have h3 : (a ^^^ 1).testBit 0 = (a.testBit 0 ^^ (1 : Nat).testBit 0) := Nat.testBit_xor ..
    revert h1 h3
    generalize a ^^^ 1 = x
    intro h1 h3
    simp only [Nat.testBit_zero] at h3
    unfold prA
    by_cases h : a % 2 = 0
    · rw [if_pos h]
      have : x % 2 = 1 := by simpa [h] using h3
      omega
    · rw [if_neg h]
      have h' : a % 2 = 1 := by omega
      have : ¬ x % 2 = 1 := by simpa [h'] using h3
      omega
  rw [e, e1, e2]
  exact w64_in (by omega) (by unfold prA; split <;> omega)
end Go.Proofs.YtdcamadeblojdaaGreat

namespace Go.Proofs.YtdcamadeblojdaaGreat
open Go
set_option linter.unusedVariables false
set_option linter.unusedSimpArgs false

/-- What is on the edges. -/
def onR (room : Nat → Int) (i : Nat) : Int := room (2 * i + 1)
def sndR (room : Nat → Int) (a : Nat) (x : Int) : Nat → Int := upd (upd room a (room a - x)) (prA a) (room (prA a) + x)
theorem sndR_a {room : Nat → Int} {a : Nat} {x : Int} : sndR room a x a = room a - x := by
  unfold sndR upd; rw [if_neg (fun h => prA_ne a h.symm), if_pos rfl]
theorem sndR_p {room : Nat → Int} {a : Nat} {x : Int} : sndR room a x (prA a) = room (prA a) + x := by
  unfold sndR upd; rw [if_pos rfl]
theorem sndR_o {room : Nat → Int} {a b : Nat} {x : Int} (h1 : b ≠ a) (h2 : b ≠ prA a) : sndR room a x b = room b := by
  unfold sndR upd; rw [if_neg h2, if_neg h1]
theorem sndR_0 {room : Nat → Int} {a : Nat} : sndR room a 0 = room := by
  funext b
  by_cases h1 : b = a
  · subst h1; rw [sndR_a]; omega
  · by_cases h2 : b = prA a
    · subst h2; rw [sndR_p]; omega
    · exact sndR_o h1 h2
/-- Rooms are right. -/
structure RmP (m : Nat) (cap : Nat → Int) (room : Nat → Int) : Prop where
  pos : ∀ a, a < 2 * m → 0 ≤ room a
  sum : ∀ i, i < m → room (2 * i) + room (2 * i + 1) = cap i
theorem RmP.pr {m : Nat} {cap room : Nat → Int} (R : RmP m cap room) {a : Nat} (ha : a < 2 * m) : room a + room (prA a) = cap (a / 2) := by
  have := R.sum (a / 2) (by omega)
  unfold prA
  split
  · have e : 2 * (a / 2) = a := by omega
    rw [e] at this; exact this
  · have e : 2 * (a / 2) = a - 1 := by omega
    rw [e, show a - 1 + 1 = a by omega] at this
    omega
theorem RmP.snd {m : Nat} {cap room : Nat → Int} (R : RmP m cap room) {a : Nat} {x : Int} (ha : a < 2 * m) (h0 : 0 ≤ x) (h1 : x ≤ room a) : RmP m cap (sndR room a x) := by
  have hp := prA_lt ha
  refine ⟨fun b hb => ?_, fun i hi => ?_⟩
  · by_cases e1 : b = a
    · subst e1; rw [sndR_a]; omega
    · by_cases e2 : b = prA a
      · subst e2; rw [sndR_p]; have := R.pos _ hp; omega
      · rw [sndR_o e1 e2]; exact R.pos b hb
  · have e0 := R.sum i hi
    by_cases e1 : 2 * i = a
    · subst e1
      have e2 : prA (2 * i) = 2 * i + 1 := by unfold prA; rw [if_pos (by omega)]
      have p := sndR_p (room := room) (a := 2 * i) (x := x)
      rw [e2] at p
      rw [sndR_a, p]; omega
    · by_cases e2 : 2 * i + 1 = a
      · subst e2
        have e3 : prA (2 * i + 1) = 2 * i := by unfold prA; rw [if_neg (by omega)]; omega
        have p := sndR_p (room := room) (a := 2 * i + 1) (x := x)
        rw [e3] at p
        rw [sndR_a, p]; omega
      · have : 2 * i ≠ prA a ∧ 2 * i + 1 ≠ prA a := by unfold prA; split <;> omega
        rw [sndR_o e1 this.1, sndR_o e2 this.2]; exact e0
/-- What goes along an arc goes from its tail to its head. -/
theorem out_snd {m : Nat} {fr to : Nat → Nat} {room : Nat → Int} {a : Nat} {x : Int} (ha : a < 2 * m) (v : Nat) :
    OutF m fr to (onR (sndR room a x)) v = OutF m fr to (onR room) v + (if tlA fr to a = v then x else 0) - (if hdA fr to a = v then x else 0) := by
  have e : ∀ i, i < m → ((if fr i = v then onR (sndR room a x) i else 0) - (if to i = v then onR (sndR room a x) i else 0)) =
      ((if fr i = v then onR room i else 0) - (if to i = v then onR room i else 0)) + (if a / 2 = i then (if tlA fr to a = v then x else 0) - (if hdA fr to a = v then x else 0) else 0) := by
    intro i hi
    unfold onR
    by_cases e1 : a / 2 = i
    · rw [if_pos e1]
      by_cases h2 : a % 2 = 0
      · have ea : a = 2 * i := by omega
        have p := sndR_p (room := room) (a := a) (x := x)
        have ep : prA a = 2 * i + 1 := by unfold prA; rw [if_pos h2, ea]
        rw [ep] at p
        rw [p]
        unfold tlA hdA
        rw [if_pos h2, if_pos h2, e1]
        split <;> split <;> omega
      · have ea : a = 2 * i + 1 := by omega
        have p := sndR_a (room := room) (a := a) (x := x)
        rw [← ea, p]
        unfold tlA hdA
        rw [if_neg h2, if_neg h2, e1]
        split <;> split <;> omega
    · rw [if_neg e1, sndR_o (by omega) (by unfold prA; split <;> omega)]; omega
  unfold OutF
  rw [sumN_congr e, sumN_add, sumN_pt, if_pos (by omega)]; omega
/-- A step with room is a residual step. -/
theorem rs_arc {m : Nat} {fr to : Nat → Nat} {cap room : Nat → Int} (R : RmP m cap room) {u v : Nat} :
    RsS m fr to cap (onR room) u v ↔ ∃ a, a < 2 * m ∧ tlA fr to a = u ∧ hdA fr to a = v ∧ 0 < room a := by
  constructor
  · rintro ⟨i, hi, ⟨h1, h2, h3⟩ | ⟨h1, h2, h3⟩⟩
    · refine ⟨2 * i, by omega, ?_, ?_, ?_⟩
      · unfold tlA; rw [if_pos (by omega), show 2 * i / 2 = i by omega]; exact h1
      · unfold hdA; rw [if_pos (by omega), show 2 * i / 2 = i by omega]; exact h2
      · have := R.sum i hi
        unfold onR at h3; omega
    · refine ⟨2 * i + 1, by omega, ?_, ?_, h3⟩
      · unfold tlA; rw [if_neg (by omega), show (2 * i + 1) / 2 = i by omega]; exact h1
      · unfold hdA; rw [if_neg (by omega), show (2 * i + 1) / 2 = i by omega]; exact h2
  · rintro ⟨a, ha, h1, h2, h3⟩
    refine ⟨a / 2, by omega, ?_⟩
    unfold tlA at h1
    unfold hdA at h2
    have := R.sum (a / 2) (by omega)
    unfold onR
    by_cases h : a % 2 = 0
    · rw [if_pos h] at h1 h2
      have e : 2 * (a / 2) = a := by omega
      rw [e] at this
      exact .inl ⟨h1, h2, by rw [e]; omega⟩
    · rw [if_neg h] at h1 h2
      have e : 2 * (a / 2) + 1 = a := by omega
      exact .inr ⟨h1, h2, by rw [e]; exact h3⟩

/-- The net in the heap: owners 1 (to), 2 (room), 3 (out), 4 (the struct), 20 + v (out of v). -/
structure Net (own : Own) (h : H) (bn n m : Nat) (fr to : Nat → Nat) (s t : Nat) (room : Nat → Int) : Prop where
  ex : ∃ vto vroom vout outs, B1 own h 4 bn [vto, vroom, vout, .int .i64 s, .int .i64 t] ∧ S1 own h 1 vto (ints (2 * m) fun a => (hdA fr to a : Nat)) ∧
    S1 own h 2 vroom (ints (2 * m) room) ∧ S1 own h 3 vout (va n outs) ∧ ∀ v, v < n → S1 own h (20 + v) (outs v) (natV (arcsL fr to m v))
section
variable {own own' : Own} {h h' : H} {bn n m s t : Nat} {fr to : Nat → Nat} {room room' : Nat → Int} {M : List Nat}
theorem Net.fm (N : Net own h bn n m fr to s t room) (F : Fm M own h own' h') (h1 : ∀ i, i ∈ M → 4 < i ∧ i < 20) : Net own' h' bn n m fr to s t room := by
  obtain ⟨a, b, c, d, k1, k2, k3, k4, k5⟩ := N.ex
  have no : ∀ j, (j ≤ 4 ∨ 20 ≤ j) → j ∉ M := fun j hj hm => by have := h1 j hm; omega
  exact ⟨a, b, c, d, k1.fm F (no _ (by omega)), k2.fm F (no _ (by omega)), k3.fm F (no _ (by omega)), k4.fm F (no _ (by omega)), fun v hv => (k5 v hv).fm F (no _ (by omega))⟩
theorem Net.new {b i : Nat} (N : Net own h bn n m fr to s t room) (x : Ext h h') (hb : h b = none) : Net (own1 own b i) h' bn n m fr to s t room := N.fm (M := []) (Fm.new x hb) (by simp)

/-- A room anew, whose owner alone changed. -/
theorem send_T (N : Net own h bn n m fr to s t room) (hm : m ≤ 4096) {a : Nat} {x : Int} (ha : a < 2 * m)
    (w1 : -9223372036854775808 ≤ room a - x ∧ room a - x < 9223372036854775808) (w2 : -9223372036854775808 ≤ room (prA a) + x ∧ room (prA a) + x < 9223372036854775808) :
    T Tryz.prog F.maxflow_net_send [.pointer (some (bk bn)), .int .i64 a, .int .i64 x] h fun r h' =>
      r = .ret (.tuple ⟨[]⟩) ∧ Fm [2] own h own h' ∧ Net own h' bn n m fr to s t (sndR room a x) := by
  obtain ⟨vto, vroom, vout, outs, k1, k2, k3, k4, k5⟩ := N.ex
  refine E_maxflow_net_send ?_
  unfold B_maxflow_net_send
  refine ⟨_, k1.ld rfl, k3.rdI ha ?_⟩
  refine k3.setI ha ?_
  intro g2 F2 k3'
  have k1' := k1.fm F2 (by simp)
  refine ⟨_, k1'.ld rfl, ?_⟩
  have hp := prA_lt ha
  rw [xor1 (by omega)]
  refine k3'.rdI hp ?_
  refine k3'.setI hp ?_
  intro g3 F3 k3''
  have F : Fm [2] own h own g3 := F2.trans F3
  refine ⟨rfl, F, vto, vroom, vout, outs, k1.fm F (by simp), k2.fm F (by simp), ?_, k4.fm F (by simp), fun v hv => (k5 v hv).fm F (by simp; omega)⟩
  have e : upd (upd room a (IntKind.i64.wrap (room a - x))) (prA a) (IntKind.i64.wrap (upd room a (IntKind.i64.wrap (room a - x)) (prA a) + x)) = sndR room a x := by
    have e1 : IntKind.i64.wrap (room a - x) = room a - x := w64_in w1.1 w1.2
    have e2 : upd room a (IntKind.i64.wrap (room a - x)) (prA a) = room (prA a) := if_neg (prA_ne a)
    have e3 : IntKind.i64.wrap (room (prA a) + x) = room (prA a) + x := w64_in w2.1 w2.2
    rw [e2, e1, e3]; rfl
  rw [← e]; exact k3''
end

end Go.Proofs.YtdcamadeblojdaaGreat

namespace Go.Proofs.YtdcamadeblojdaaGreat
open Go
set_option linter.unusedVariables false
set_option linter.unusedSimpArgs false

/-- Rooms at first. -/
def room0 (cap : Nat → Int) (a : Nat) : Int := if a % 2 = 0 then cap (a / 2) else 0
theorem room0_ok {m : Nat} {cap : Nat → Int} (h : ∀ i, i < m → 0 ≤ cap i) : RmP m cap (room0 cap) := by
  refine ⟨fun a ha => ?_, fun i hi => ?_⟩
  · have := h (a / 2) (by omega)
    unfold room0; split <;> omega
  · unfold room0
    rw [if_pos (by omega), if_neg (by omega), show 2 * i / 2 = i by omega]; omega
theorem room0_out {m : Nat} {cap : Nat → Int} {fr to : Nat → Nat} (v : Nat) : OutF m fr to (onR (room0 cap)) v = 0 := by
  refine sumN_zero fun i hi => ?_
  have : onR (room0 cap) i = 0 := by unfold onR room0; rw [if_neg (by omega)]
  rw [this]; split <;> split <;> rfl
theorem ints_snoc2 {i : Nat} {f : Nat → Int} {x y : Int} (hx : f (2 * i) = x) (hy : f (2 * i + 1) = y) : ints (2 * i) f ++ [.int .i64 x, .int .i64 y] = ints (2 * (i + 1)) f := by
  unfold ints
  rw [show 2 * (i + 1) = 2 * i + 1 + 1 by omega, List.range_succ, List.range_succ]
  simp [hx, hy]
theorem natV_append (a b : List Nat) : natV (a ++ b) = natV a ++ natV b := by simp [natV]

section
variable {h : H} {w : List Value} {n m s t : Nat} {es : Nat → Ed}

theorem newNet_T (G : GrA h w n m es) (g : Gd n m es) : T Tryz.prog F.maxflow_newNet [.agg ⟨w⟩, .int .i64 s, .int .i64 t] h fun r h' =>
    ∃ bn own, r = .ret (.pointer (some (bk bn))) ∧ Bs h own h' ∧ Net own h' bn n m (frE es) (toE es) s t (room0 (cpE es)) := by
  have n1 := g.n1
  have m1 := g.m1
  refine E_maxflow_newNet ?_
  unfold B_maxflow_newNet
  refine new_bl ?_
  intro b1 g1 hb1 x1 B
  obtain ⟨a, c, rfl, hc⟩ := G
  refine ⟨_, B.ld rfl, mk_S1 3 (by omega) (by omega) ?_⟩
  intro b4 g4 hb4 x4 S4
  refine new_bl ?_
  intro b6 g6 hb6 x6 B6
  have B1' := (B.ext x4).ext x6
  refine ⟨_, B1'.ld rfl, slcP_mk ?_⟩
  let own0 : Own := fun _ => 0
  let ownB := own1 (own1 (own1 own0 b1 9) b4 3) b6 4
  have bs : Bs h ownB g6 := ((Bs.start.new x1 hb1).new x4 hb4).new x6 hb6
  have e9 : B1 ownB g6 9 b1 [.int .i64 n, .slice a m c] := ((B1.new B).newo x4 hb4).newo x6 hb6
  have s4 : S1 ownB g6 3 (.slice (some (bk b4)) n n) (va n fun _ => .slice none 0 0) := (S4 _).new x6 hb6
  have b6' : B1 ownB g6 4 b6 [.slice none 0 0, .slice none 0 0, .slice (some (bk b4)) n n, .int .i64 s, .int .i64 t] := B1.new B6
  let I : (Int × Unit) → H → Nat → Prop := fun p q k => ∃ (i : Nat) (own : Own) (vto vroom : Value) (outs : Nat → Value), p.1 = i ∧ i ≤ m ∧ k = m - i ∧ Bs h own q ∧
    B1 own q 9 b1 [.int .i64 n, .slice a m c] ∧
    B1 own q 4 b6 [vto, vroom, .slice (some (bk b4)) n n, .int .i64 s, .int .i64 t] ∧ S1 own q 1 vto (ints (2 * i) fun a => (hdA (frE es) (toE es) a : Nat)) ∧
    S1 own q 2 vroom (ints (2 * i) (room0 (cpE es))) ∧ S1 own q 3 (.slice (some (bk b4)) n n) (va n outs) ∧ ∀ v, v < n → S1 own q (20 + v) (outs v) (natV (arcsL (frE es) (toE es) i v))
  refine ⟨fun s g2 => ∃ k, I s g2 k, rk I, rk_wf I, ⟨_, 0, ownB, _, _, _, rfl, by omega, rfl, bs, e9, b6', S1.nil, S1.nil, s4, fun v hv => S1.nil⟩, ?_⟩
  intro p q hI
  obtain ⟨i, own, vto, vroom, outs, e1, hi, hk, bs, k9, k4, k1, k2, k3, k5⟩ := mu_spec hI
  generalize hkk : mu I ((p, ()), q) = k at *
  change p = (i : Int) at e1
  subst e1
  refine ifP_of (fun h1 => ?_) (fun h1 => ?_)
  · have him : i < m := by have := of_decide_eq_true h1; omega
    obtain ⟨ad, rfl, hcc⟩ := hc i him
    have ef := g.fr him
    have et := g.to him
    refine ⟨by omega, by omega, ?_⟩
    rw [Int.toNat_natCast]
    refine ⟨(es i).vs, rfl, fun j v hj => bs.ext.cell (hcc j v hj), ?_⟩
    refine new_bl_st rfl rfl (ed_one _) ?_
    intro b18 g20 hb18 x20 B18
    have bs := bs.new (i := 8) x20 hb18
    have k9 := k9.newo (j := 8) x20 hb18
    have k4 := k4.newo (j := 8) x20 hb18
    have k1 := k1.new (j := 8) x20 hb18
    have k2 := k2.new (j := 8) x20 hb18
    have k3 := k3.new (j := 8) x20 hb18
    have k5 := fun v hv => (k5 v hv).new (j := 8) x20 hb18
    have k8 : B1 (own1 own b18 8) g20 8 b18 (es i).vs := B1.new B18
    generalize own1 own b18 8 = own at *
    refine ⟨_, k4.ld rfl, k1.len (ints_length _ _) fun _ _ => ?_⟩
    refine ⟨_, k4.ld rfl, _, k8.ld rfl, _, k8.ld rfl, ?_⟩
    refine k1.push rfl (by simp [Value.oneCell']) (by simp) (by omega) (by rw [ints_length]; omega) ?_
    intro _ _ vto' own2 g31 _ _ F2 k1'
    refine oneP_slc k1'.isS ?_
    have bs := bs.fm F2 (by simp)
    have k9 := k9.fm F2 (by simp)
    have k8 := k8.fm F2 (by simp)
    have k4 := k4.fm F2 (by simp)
    have k2 := k2.fm F2 (by simp)
    have k3 := k3.fm F2 (by simp)
    have k5 := fun v hv => (k5 v hv).fm F2 (by simp <;> omega)
    refine k4.st (by simp) ?_
    intro g32 F3 k4
    simp only [List.set] at k4
    have bs := bs.fm F3 (by simp)
    have k9 := k9.fm F3 (by simp)
    have k8 := k8.fm F3 (by simp)
    have k1 := k1'.fm F3 (by simp)
    have k2 := k2.fm F3 (by simp)
    have k3 := k3.fm F3 (by simp)
    have k5 := fun v hv => (k5 v hv).fm F3 (by simp <;> omega)
    rw [ef.1, et.1, ints_snoc2 (by unfold hdA; rw [if_pos (by omega), show 2 * i / 2 = i by omega]) (by unfold hdA; rw [if_neg (by omega), show (2 * i + 1) / 2 = i by omega])] at k1
    refine ⟨_, k4.ld rfl, _, k8.ld rfl, ?_⟩
    refine k2.push rfl (by simp [Value.oneCell']) (by simp) (by omega) (by rw [ints_length]; omega) ?_
    intro _ _ vroom' own3 g38 _ _ F4 k2'
    refine oneP_slc k2'.isS ?_
    have bs := bs.fm F4 (by simp)
    have k9 := k9.fm F4 (by simp)
    have k8 := k8.fm F4 (by simp)
    have k4 := k4.fm F4 (by simp)
    have k1 := k1.fm F4 (by simp)
    have k3 := k3.fm F4 (by simp)
    have k5 := fun v hv => (k5 v hv).fm F4 (by simp <;> omega)
    refine k4.st (by simp) ?_
    intro g39 F5 k4
    simp only [List.set] at k4
    have bs := bs.fm F5 (by simp)
    have k9 := k9.fm F5 (by simp)
    have k8 := k8.fm F5 (by simp)
    have k1 := k1.fm F5 (by simp)
    have k2 := k2'.fm F5 (by simp)
    have k3 := k3.fm F5 (by simp)
    have k5 := fun v hv => (k5 v hv).fm F5 (by simp <;> omega)
    rw [ints_snoc2 (by unfold room0; rw [if_pos (by omega), show 2 * i / 2 = i by omega]) (by unfold room0; rw [if_neg (by omega)])] at k2
    refine ⟨_, k4.ld rfl, _, k8.ld rfl, _, k4.ld rfl, _, k8.ld rfl, ?_⟩
    rw [ef.1]
    refine k3.rdV ef.2 ?_
    have lf := arcsL_length (fr := frE es) (to := toE es) (v := frE es i) (i := i)
    refine (k5 _ ef.2).push rfl (by simp [Value.oneCell']) (by simp) (by omega) (by rw [natV_length]; omega) ?_
    intro _ g47 so own4 g49 _ x47 F6 ko
    have bs := bs.fm F6 (by simp <;> omega)
    have k9 := k9.fm F6 (by simp <;> omega)
    have k8' := k8.fm F6 (by simp <;> omega)
    have k4' := k4.fm F6 (by simp <;> omega)
    have k1 := k1.fm F6 (by simp <;> omega)
    have k2 := k2.fm F6 (by simp <;> omega)
    have k3 := k3.fm F6 (by simp <;> omega)
    have k5 := fun v hv (hne : v ≠ frE es i) => (k5 v hv).fm F6 (by simp <;> omega)
    refine ⟨sameAt_b1 (k8.ext x47) k8', sameAt_b1 (k4.ext x47) k4', ?_⟩
    refine k3.setO ef.2 ko.isS ?_
    intro g51 F7 k3
    have k8 := k8'
    have k4 := k4'
    have bs := bs.fm F7 (by simp <;> omega)
    have k9 := k9.fm F7 (by simp <;> omega)
    have k8 := k8.fm F7 (by simp <;> omega)
    have k4 := k4.fm F7 (by simp <;> omega)
    have k1 := k1.fm F7 (by simp <;> omega)
    have k2 := k2.fm F7 (by simp <;> omega)
    have ko := ko.fm F7 (by simp <;> omega)
    have k5' : ∀ v, v < n → S1 own4 g51 (20 + v) (updV outs (frE es i) so v) (natV (arcsL (frE es) (toE es) i v ++ (if frE es i = v then [2 * i] else []))) := by
      intro v hv
      unfold updV
      by_cases e : v = frE es i
      · rw [if_pos e, if_pos e.symm, natV_append, e]; exact ko
      · rw [if_neg e, if_neg (fun h => e h.symm), List.append_nil]
        exact ((k5 v hv e).fm F7 (by simp <;> omega))
    clear k5
    have k5 := k5'
    clear k5'
    refine ⟨_, k4.ld rfl, _, k8.ld rfl, _, k4.ld rfl, _, k8.ld rfl, ?_⟩
    rw [et.1]
    refine k3.rdV et.2 ?_
    have lf := arcsL_length (fr := frE es) (to := toE es) (v := toE es i) (i := i)
    refine (k5 _ et.2).push rfl (by simp [Value.oneCell']) (by simp) (by omega) (by rw [natV_length, List.length_append]; split <;> simp <;> omega) ?_
    intro _ g59 so2 own5 g61 _ x59 F8 ko
    have k8' := k8
    have k4' := k4
    have bs := bs.fm F8 (by simp <;> omega)
    have k9 := k9.fm F8 (by simp <;> omega)
    have k8' := k8'.fm F8 (by simp <;> omega)
    have k4' := k4'.fm F8 (by simp <;> omega)
    have k1 := k1.fm F8 (by simp <;> omega)
    have k2 := k2.fm F8 (by simp <;> omega)
    have k3 := k3.fm F8 (by simp <;> omega)
    have k5 := fun v hv (hne : v ≠ toE es i) => (k5 v hv).fm F8 (by simp <;> omega)
    refine ⟨sameAt_b1 (k8.ext x59) k8', sameAt_b1 (k4.ext x59) k4', ?_⟩
    refine k3.setO et.2 ko.isS ?_
    intro g63 F9 k3
    have bs := bs.fm F9 (by simp <;> omega)
    have k9 := k9.fm F9 (by simp <;> omega)
    have k4' := k4'.fm F9 (by simp <;> omega)
    have k1 := k1.fm F9 (by simp <;> omega)
    have k2 := k2.fm F9 (by simp <;> omega)
    have ko := ko.fm F9 (by simp <;> omega)
    rw [i64_inc (by omega)]
    refine mu_next (I := I) (k := m - (i + 1)) ⟨i + 1, own5, vto', vroom', _, rfl, him, rfl, bs, k9, k4', k1, k2, k3, ?_⟩ (by rw [hkk, hk]; omega)
    intro v hv
    unfold updV arcsL
    rw [← List.append_assoc, natV_append]
    by_cases e : v = toE es i
    · rw [if_pos e, if_pos e.symm, e]
      have e2 : natV [2 * i + 1] = [.int .i64 (IntKind.i64.wrap (((2 * i : Nat) : Int) + 1))] := by rw [i64_inc (by omega)]; rfl
      rw [e2]; exact ko
    · rw [if_neg e, if_neg (c := toE es i = v) (fun h => e h.symm)]
      have := (k5 v hv e).fm F9 (by simp <;> omega)
      simpa [natV, updV] using this
  · have : i = m := by have := of_decide_eq_false h1; omega
    subst this
    exact ⟨b6, own, rfl, bs, vto, vroom, _, outs, k4, k1, k2, k3, k5⟩
end

end Go.Proofs.YtdcamadeblojdaaGreat

namespace Go.Proofs.YtdcamadeblojdaaGreat
open Go
set_option linter.unusedVariables false
set_option linter.unusedSimpArgs false

/-- A step along an arc with room. -/
def ArS (m : Nat) (fr to : Nat → Nat) (room : Nat → Int) (u v : Nat) : Prop := ∃ a, a < 2 * m ∧ tlA fr to a = u ∧ hdA fr to a = v ∧ 0 < room a
/-- What levels tells. -/
structure LevP (n m : Nat) (fr to : Nat → Nat) (room : Nat → Int) (s : Nat) (lev : Nat → Int) : Prop where
  src : lev s = 0
  bd : ∀ v, v < n → -1 ≤ lev v ∧ lev v < n
  pred : ∀ v, v < n → 0 < lev v → ∃ a, a < 2 * m ∧ hdA fr to a = v ∧ 0 < room a ∧ lev (tlA fr to a) = lev v - 1
  cl : ∀ a, a < 2 * m → 0 < room a → 0 ≤ lev (tlA fr to a) → 0 ≤ lev (hdA fr to a)
  one : ∀ v, v < n → lev v = 0 → v = s
theorem LevP.iff {n m : Nat} {fr to : Nat → Nat} {room : Nat → Int} {s : Nat} {lev : Nat → Int} (L : LevP n m fr to room s lev)
    (hn : ∀ i, i < m → fr i < n ∧ to i < n) {v : Nat} (hv : v < n) : 0 ≤ lev v ↔ Rch (ArS m fr to room) s v := by
  constructor
  · have key : ∀ k : Nat, ∀ v, v < n → lev v = k → Rch (ArS m fr to room) s v := by
      intro k
      induction k with
      | zero => intro v hv e; rw [L.one v hv e]; exact .refl
      | succ k ih =>
        intro v hv e
        obtain ⟨a, ha, h1, h2, h3⟩ := L.pred v hv (by omega)
        exact (ih (tlA fr to a) (tl_lt hn ha) (by omega)).step ⟨a, ha, rfl, h1, h2⟩
    intro h
    exact key (lev v).toNat v hv (by omega)
  · intro r
    refine (r.closed (C := fun v => v < n → 0 ≤ lev v) (fun _ => by rw [L.src]; omega) ?_) hv
    rintro u w hu ⟨a, ha, rfl, rfl, hr⟩ _
    exact L.cl a ha hr (hu (tl_lt hn ha))

/-- Loops over 0 .. n-1 that set all. -/
theorem upd_lt {f : Nat → Int} {i : Nat} {x : Int} : (fun v => if v < i + 1 then x else f v) = upd (fun v => if v < i then x else f v) i x := by
  funext v
  unfold upd
  by_cases h1 : v = i
  · rw [if_pos h1, if_pos (by omega)]
  · rw [if_neg h1]
    show _ = if v < i then x else f v
    by_cases h2 : v < i
    · rw [if_pos h2, if_pos (by omega)]
    · rw [if_neg h2, if_neg (by omega)]
def cntN (n : Nat) (lev : Nat → Int) : Int := sumN n fun v => if lev v < 0 then 1 else 0
theorem cntN_upd {n w : Nat} {lev : Nat → Int} {x : Int} (hw : w < n) (h : lev w < 0) (hx : 0 ≤ x) : cntN n (upd lev w x) = cntN n lev - 1 := by
  unfold cntN
  have e : (fun v => if upd lev w x v < 0 then (1 : Int) else 0) = upd (fun v => if lev v < 0 then 1 else 0) w 0 := by
    funext v
    unfold upd
    by_cases h1 : v = w
    · rw [if_pos h1, if_pos h1, if_neg (by omega)]
    · rw [if_neg h1, if_neg h1]
  rw [e, sumN_upd hw, if_pos h]; omega
theorem cntN_nn {n : Nat} {lev : Nat → Int} : 0 ≤ cntN n lev := sumN_nonneg fun i _ => by split <;> omega

/-- The queue holds all that have a level; those before i are done. -/
structure LvI (n m : Nat) (fr to : Nat → Nat) (room : Nat → Int) (s i : Nat) (Q : List Nat) (lev : Nat → Int) : Prop where
  src : lev s = 0
  lo : ∀ v, v < n → -1 ≤ lev v
  up : ∀ v, v < n → lev v < Q.length
  mem : ∀ v, v ∈ Q → v < n ∧ 0 ≤ lev v
  all : ∀ v, v < n → 0 ≤ lev v → v ∈ Q
  cnt : (Q.length : Int) + cntN n lev = n
  pred : ∀ v, v < n → 0 < lev v → ∃ a, a < 2 * m ∧ hdA fr to a = v ∧ 0 < room a ∧ lev (tlA fr to a) = lev v - 1
  one : ∀ v, v < n → lev v = 0 → v = s
  done : ∀ k, k < i → ∀ hk : k < Q.length, ∀ a, a < 2 * m → tlA fr to a = Q[k] → 0 < room a → 0 ≤ lev (hdA fr to a)
section
variable {n m i : Nat} {fr to : Nat → Nat} {room : Nat → Int} {s w : Nat} {Q : List Nat} {lev : Nat → Int}
theorem LvI.next (L : LvI n m fr to room s i Q lev) (hn : ∀ i, i < m → fr i < n ∧ to i < n) {a : Nat} (hi : i < Q.length) (ha : a < 2 * m) (ht : tlA fr to a = Q[i]) (hr : 0 < room a) (hl : lev (hdA fr to a) < 0) :
    LvI n m fr to room s i (Q ++ [hdA fr to a]) (upd lev (hdA fr to a) (lev Q[i] + 1)) := by
  have hw := hd_lt hn ha
  have hq := L.mem _ (List.getElem_mem hi)
  have hqb := L.up _ hq.1
  have ne : Q[i] ≠ hdA fr to a := by intro e; rw [e] at hq; omega
  have keep : ∀ v, 0 ≤ lev v → upd lev (hdA fr to a) (lev Q[i] + 1) v = lev v := by
    intro v hv
    unfold upd
    rw [if_neg]
    rintro rfl; omega
  have at_ : upd lev (hdA fr to a) (lev Q[i] + 1) (hdA fr to a) = lev Q[i] + 1 := if_pos rfl
  have grow : ∀ v, 0 ≤ lev v → 0 ≤ upd lev (hdA fr to a) (lev Q[i] + 1) v := fun v hv => by rw [keep v hv]; exact hv
  refine ⟨?_, ?_, ?_, ?_, ?_, ?_, ?_, ?_, ?_⟩
  · rw [keep _ (by rw [L.src]; omega)]; exact L.src
  · intro v hv
    have := L.lo v hv
    unfold upd; split <;> omega
  · intro v hv
    have := L.up v hv
    rw [List.length_append]
    unfold upd; split <;> simp <;> omega
  · intro v hv
    rcases List.mem_append.1 hv with h | h
    · exact ⟨(L.mem v h).1, grow v (L.mem v h).2⟩
    · have : v = hdA fr to a := by simpa using h
      subst this
      exact ⟨hw, by rw [at_]; omega⟩
  · intro v hv h
    rw [List.mem_append]
    by_cases e : v = hdA fr to a
    · exact .inr (by simp [e])
    · refine .inl (L.all v hv ?_)
      unfold upd at h
      rwa [if_neg e] at h
  · rw [cntN_upd hw hl (by omega), List.length_append]
    have := L.cnt
    simp; omega
  · intro v hv h
    by_cases e : v = hdA fr to a
    · subst e
      refine ⟨a, ha, rfl, hr, ?_⟩
      rw [at_, ht, keep _ hq.2]; omega
    · have h' : upd lev (hdA fr to a) (lev Q[i] + 1) v = lev v := if_neg e
      rw [h'] at h ⊢
      obtain ⟨b, hb, h1, h2, h3⟩ := L.pred v hv h
      exact ⟨b, hb, h1, h2, by rw [keep _ (by omega)]; exact h3⟩
  · intro v hv h
    by_cases e : v = hdA fr to a
    · subst e; rw [at_] at h; omega
    · have h' : upd lev (hdA fr to a) (lev Q[i] + 1) v = lev v := if_neg e
      rw [h'] at h; exact L.one v hv h
  · intro k hk hk2 b hb h1 h2
    have hkq : k < Q.length := by omega
    rw [List.getElem_append_left hkq] at h1
    exact grow _ (L.done k hk hkq b hb h1 h2)
end

section
variable {own : Own} {h : H} {bn n m s t : Nat} {fr to : Nat → Nat} {room : Nat → Int}
theorem levels_T (N : Net own h bn n m fr to s t room) (hn : ∀ i, i < m → fr i < n ∧ to i < n) (n1 : n ≤ 1024) (m1 : m ≤ 4096) {v0 : Nat} (hv : v0 < n) :
    T Tryz.prog F.maxflow_net_levels [.pointer (some (bk bn)), .int .i64 v0] h fun r h' => Ext h h' ∧ ∃ b lev, r = .ret (.slice (some (bk b)) n n) ∧ h b = none ∧
      Sl h' b (.slice (some (bk b)) n n) (ints n lev) ∧ LevP n m fr to room v0 lev := by
  have N0 := N
  obtain ⟨vto, vroom, vout, outs, k4, k1, k2, k3, k5⟩ := N.ex
  refine E_maxflow_net_levels ?_
  unfold B_maxflow_net_levels
  refine ⟨_, k4.ld rfl, k3.len (va_length _ _) fun _ _ => ?_⟩
  refine mk_ints 6 (by omega) (by omega) ?_
  intro b6 g6 hb6 x6 S6
  have toN : ((n : Nat) : Int).toNat = n := Int.toNat_natCast n
  rw [toN]
  let ownB := own1 (fun _ => 0) b6 6
  have bs : Bs h ownB g6 := Bs.start.new x6 hb6
  -- all are -1
  let I0 : (Int × Unit) → H → Nat → Prop := fun p q k => ∃ i : Nat, p.1 = i ∧ i ≤ n ∧ k = n - i ∧ Bs h ownB q ∧ S1 ownB q 6 (.slice (some (bk b6)) n n) (ints n fun v => if v < i then -1 else 0)
  refine ⟨fun p q => ∃ k, I0 p q k, rk I0, rk_wf I0, ⟨_, 0, rfl, by omega, rfl, bs, by simpa using S6 _⟩, ?_⟩
  clear bs
  intro p q hI
  obtain ⟨i, e1, hi, hk, bs, k6⟩ := mu_spec hI
  generalize hkk : mu I0 ((p, ()), q) = k at *
  change p = (i : Int) at e1
  subst e1
  refine ifP_of (fun h1 => ?_) (fun h1 => ?_)
  · have him : i < n := by have := of_decide_eq_true h1; omega
    refine k6.setI him ?_
    intro g F k6
    have bs := bs.fm F (by simp <;> omega)
    rw [i64_inc (by omega)]
    exact mu_next (I := I0) (k := n - (i + 1)) ⟨i + 1, rfl, him, rfl, bs, by rw [upd_lt]; exact k6⟩ (by rw [hkk, hk]; omega)
  have : i = n := by have := of_decide_eq_false h1; omega
  subst this
  clear hI hkk hk k h1
  -- the start
  refine k6.setI hv ?_
  intro g15 F k6
  have bs := bs.fm F (by simp <;> omega)
  clear F
  refine new_bl ?_
  intro b16 g17 hb16 x17 B16
  have bs := bs.nw (j := 7) x17 hb16
  have k6 := k6.nw (j := 7) x17 hb16
  have k7 : S1 (own1 ownB b16 7) g17 7 (.slice (some (bk b16)) 1 1) (natV [v0]) := .inr ⟨b16, own1_at, 1, B16.choose, [], rfl, B16.choose_spec, rfl⟩
  generalize own1 ownB b16 7 = own2 at *
  clear hb16 x17 B16 S6
  let I : (Value × Int × Unit) → H → Nat → Prop := fun p q k => ∃ (j : Nat) (Q : List Nat) (lev : Nat → Int) (own3 : Own), p.2.1 = j ∧ j ≤ Q.length ∧ k = i - j ∧ Bs h own3 q ∧
    S1 own3 q 7 p.1 (natV Q) ∧ S1 own3 q 6 (.slice (some (bk b6)) i i) (ints i lev) ∧ LvI i m fr to room v0 j Q lev
  refine ⟨fun p q => ∃ k, I p q k, rk I, rk_wf I, ⟨_, 0, [v0], _, own2, rfl, by simp, rfl, bs, k7, k6, ?_⟩, ?_⟩
  · refine ⟨if_pos rfl, ?_, ?_, ?_, ?_, ?_, ?_, ?_, fun k hk => absurd hk (by omega)⟩
    · intro v hv; unfold upd; split <;> simp [hv]
    · intro v hv; unfold upd; split <;> simp [hv]
    · intro v hv
      rw [List.mem_singleton] at hv
      subst hv
      exact ⟨by assumption, by unfold upd; rw [if_pos rfl]; omega⟩
    · intro v hv h
      unfold upd at h
      by_cases e : v = v0
      · simp [e]
      · rw [if_neg e] at h; simp [hv] at h
    · rw [cntN_upd hv (by simp [hv]) (by omega)]
      have : cntN i (fun v => if v < i then -1 else 0) = i := by
        unfold cntN
        have : sumN i (fun v => if (if v < i then (-1 : Int) else 0) < 0 then (1 : Int) else 0) = sumN i fun _ => 1 := sumN_congr fun v hv => by simp [hv]
        rw [this, sumN_const]; omega
      rw [this]; simp; omega
    · intro v hv h
      unfold upd at h
      by_cases e : v = v0
      · simp [e] at h
      · rw [if_neg e] at h; simp [hv] at h
    · intro v hv h
      unfold upd at h
      by_cases e : v = v0
      · exact e
      · rw [if_neg e] at h; simp [hv] at h
  clear bs k6 k7 own2
  intro qv p q hI
  obtain ⟨j, Q, lev, own2, e1, hj, hk, bs, k7, k6, L⟩ := mu_spec hI
  generalize hkk : mu I ((qv, p, ()), q) = k at *
  change p = (j : Int) at e1
  subst e1
  change S1 own2 q 7 qv (natV Q) at k7
  refine k7.len (natV_length _) fun _ _ => ifP_of (fun h1 => ?_) (fun h1 => ?_)
  · have hjq : j < Q.length := by have := of_decide_eq_true h1; omega
    have hqj := L.mem _ (List.getElem_mem hjq)
    have hju := L.cnt
    have hjn := cntN_nn (n := i) (lev := lev)
    generalize hv1 : Q[j] = v1 at hqj
    refine ptrP_mk (k7.at (natV_get hjq) fun aq eq => ?_)
    refine ⟨_, (k4.ext bs.ext).ld rfl, _, eq, ?_⟩
    refine (k3.ext bs.ext).rdV (hv1 ▸ hqj.1) ?_
    rw [hv1]
    have k5q := k5 _ hqj.1
    refine k5q.len (natV_length _) fun _ _ => ?_
    let I35 : (Value × Int × Unit) → H → Nat → Prop := fun p q k => ∃ (l : Nat) (Q : List Nat) (lev : Nat → Int) (own3 : Own) (hjq : j < Q.length), p.2.1 = l ∧ l ≤ (arcsL fr to m Q[j]).length ∧ k = (arcsL fr to m Q[j]).length - l ∧ Bs h own3 q ∧
      S1 own3 q 7 p.1 (natV Q) ∧ S1 own3 q 6 (.slice (some (bk b6)) i i) (ints i lev) ∧ LvI i m fr to room v0 j Q lev ∧ Q[j] = v1 ∧
      (∀ l', l' < l → ∀ hl : l' < (arcsL fr to m Q[j]).length, 0 < room (arcsL fr to m Q[j])[l'] → 0 ≤ lev (hdA fr to (arcsL fr to m Q[j])[l']))
    refine ⟨fun p q => ∃ k, I35 p q k, rk I35, rk_wf I35, ⟨_, 0, Q, lev, own2, hjq, rfl, by omega, rfl, bs, k7, k6, L, hv1, fun l' hl' => absurd hl' (by omega)⟩, ?_⟩
    clear bs k6 k7 own2 L hqj eq aq
    intro qv2 p q2 hI2
    obtain ⟨l, Q2, lev2, own2, hjq2, e1, hl, hkm, bs, k7, k6, L, hv2, hdn⟩ := mu_spec hI2
    generalize hkk2 : mu I35 ((qv2, p, ()), q2) = km at *
    change p = (l : Int) at e1
    subst e1
    change S1 own2 q2 7 qv2 (natV Q2) at k7
    have hqj := L.mem _ (List.getElem_mem hjq2)
    have hqu := L.up _ hqj.1
    have hcnt := L.cnt
    have hcnn := cntN_nn (n := i) (lev := lev2)
    rw [hv2] at hl hkm hdn hqj hqu
    refine ifP_of (fun h2 => ?_) (fun h2 => ?_)
    · have hla : l < (arcsL fr to m v1).length := by have := of_decide_eq_true h2; omega
      have ha := mem_arcsL.1 (List.getElem_mem hla)
      generalize haa : (arcsL fr to m v1)[l] = a at ha
      have hw := hd_lt hn ha.1
      refine (k5q.ext bs.ext).rd (natV_get hla) ?_
      rw [haa]
      refine ⟨_, (k4.ext bs.ext).ld rfl, (k1.ext bs.ext).rdI ha.1 ?_⟩
      refine ⟨_, (k4.ext bs.ext).ld rfl, (k2.ext bs.ext).rdI ha.1 ?_⟩
      have go : ∀ {qv3 : Value} {q3 : H} {own3 : Own} {Q3 : List Nat} {lev3 : Nat → Int} (hjq3 : j < Q3.length), Bs h own3 q3 → S1 own3 q3 7 qv3 (natV Q3) → S1 own3 q3 6 (.slice (some (bk b6)) i i) (ints i lev3) →
          LvI i m fr to room v0 j Q3 lev3 → Q3[j] = v1 → (∀ v, 0 ≤ lev2 v → 0 ≤ lev3 v) → (0 < room a → 0 ≤ lev3 (hdA fr to a)) →
          (∃ k, I35 (qv3, IntKind.i64.wrap ((l : Int) + 1), ()) q3 k) ∧ rk I35 ((qv3, IntKind.i64.wrap ((l : Int) + 1), ()), q3) ((qv2, l, ()), q2) := by
        intro qv3 q3 own3 Q3 lev3 hjq3 bs k7 k6 L h3 hm hd
        have := arcsL_length (fr := fr) (to := to) (v := v1) (i := m)
        rw [i64_inc (by omega)]
        refine mu_next (I := I35) (k := (arcsL fr to m v1).length - (l + 1)) ⟨l + 1, Q3, lev3, own3, hjq3, rfl, by rw [h3]; omega, by rw [h3], bs, k7, k6, L, h3, ?_⟩ (by rw [hkk2, hkm]; omega)
        rw [h3]
        intro l' hl' hl2 hr
        by_cases e : l' = l
        · subst e; rw [haa] at hr ⊢; exact hd hr
        · exact hm _ (hdn l' (by omega) hl2 hr)
      refine ifP_of (fun h3 => ?_) (fun h3 => go hjq2 bs k7 k6 L hv2 (fun _ h => h) (fun h => absurd h (of_decide_eq_false h3)))
      have hr := of_decide_eq_true h3
      refine k6.rdI hw ?_
      refine ifP_of (fun h4 => ?_) (fun h4 => go hjq2 bs k7 k6 L hv2 (fun _ h => h) (fun _ => by have := of_decide_eq_false h4; omega))
      have hneg := of_decide_eq_true h4
      refine k7.rd (natV_get hjq2) ?_
      rw [hv2]
      refine k6.rdI hqj.1 ?_
      have ew : IntKind.i64.wrap (lev2 v1 + 1) = lev2 v1 + 1 := w64_in (by omega) (by omega)
      rw [ew]
      refine k6.setI hw ?_
      intro g57 F k6
      have bs := bs.fm F (by simp <;> omega)
      have k7 := k7.fm F (by simp <;> omega)
      refine k7.push rfl (by simp [Value.oneCell']) (by simp) (by omega) (by rw [natV_length]; omega) ?_
      intro _ _ qv3 own3 g61 _ _ F k7
      have bs := bs.fm F (by simp <;> omega)
      have k6 := k6.fm F (by simp <;> omega)
      have e2 : natV Q2 ++ [Value.int .i64 ((hdA fr to a : Nat) : Int)] = natV (Q2 ++ [hdA fr to a]) := by simp [natV]
      rw [e2] at k7
      have Ln := L.next hn hjq2 ha.1 (by rw [hv2]; exact ha.2) hr hneg
      rw [hv2] at Ln
      refine go (by rw [List.length_append]; omega) bs k7 k6 Ln (by rw [List.getElem_append_left hjq2]; exact hv2) (fun v hv => ?_) (fun _ => by unfold upd; rw [if_pos rfl]; omega)
      unfold upd; split
      · omega
      · exact hv
    · have hla : l = (arcsL fr to m v1).length := by have := of_decide_eq_false h2; omega
      subst hla
      rw [i64_inc (by omega)]
      refine mu_next (I := I) (k := i - (j + 1)) ⟨j + 1, Q2, lev2, own2, rfl, hjq2, rfl, bs, k7, k6, ?_⟩ (by rw [hkk, hk]; omega)
      refine ⟨L.src, L.lo, L.up, L.mem, L.all, L.cnt, L.pred, L.one, ?_⟩
      intro k' hk' hk2' a ha ht hr
      by_cases e : k' = j
      · subst e
        have hm : a ∈ arcsL fr to m v1 := mem_arcsL.2 ⟨ha, by rw [ht]; exact hv2⟩
        obtain ⟨l', hl', e2⟩ := List.getElem_of_mem hm
        have := hdn l' hl' hl' (by rw [e2]; exact hr)
        rwa [e2] at this
      · exact L.done k' (by omega) hk2' a ha ht hr
  · have hjq : j = Q.length := by have := of_decide_eq_false h1; omega
    subst hjq
    refine ⟨bs.ext, b6, lev, rfl, hb6, k6.sl.1, ?_⟩
    refine ⟨L.src, fun v hv => ⟨L.lo v hv, ?_⟩, L.pred, ?_, L.one⟩
    · have := L.up v hv
      have := L.cnt
      have := cntN_nn (n := i) (lev := lev)
      omega
    · intro a ha hr hl
      obtain ⟨k, hk, e⟩ := List.getElem_of_mem (L.all _ (tl_lt hn ha) hl)
      exact L.done k hk hk a ha e.symm hr
end

end Go.Proofs.YtdcamadeblojdaaGreat

namespace Go.Proofs.YtdcamadeblojdaaGreat
open Go
set_option linter.unusedVariables false
set_option linter.unusedSimpArgs false

/-- dinic in the heap: owners 5 (the struct), 6 (level), 7 (next). -/
structure Dn (own : Own) (h : H) (bd bn n m : Nat) (fr to : Nat → Nat) (s t : Nat) (room lev nxt : Nat → Int) : Prop where
  net : Net own h bn n m fr to s t room
  ex : ∃ vl vn, B1 own h 5 bd [.pointer (some (bk bn)), vl, vn] ∧ S1 own h 6 vl (ints n lev) ∧ S1 own h 7 vn (ints n nxt)
/-- Skipped arcs that could be gone lead to nodes that are done with. -/
def DdP (n m : Nat) (fr to : Nat → Nat) (t : Nat) (lev room nxt : Nat → Int) : Prop :=
  ∀ u, u < n → ∀ a ∈ (arcsL fr to m u).take (nxt u).toNat, 0 < room a → lev (hdA fr to a) = lev u + 1 → hdA fr to a ≠ t ∧ nxt (hdA fr to a) = (arcsL fr to m (hdA fr to a)).length
structure AlR (n m : Nat) (fr to : Nat → Nat) (cap : Nat → Int) (t : Nat) (lev room nxt room' nxt' : Nat → Int) (v : Nat) (x : Int) : Prop where
  rm : RmP m cap room'
  out : ∀ u, OutF m fr to (onR room') u = OutF m fr to (onR room) u + (if v = u then x else 0) - (if t = u then x else 0)
  ch : ∀ a, a < 2 * m → room' a ≠ room a → (lev v ≤ lev (tlA fr to a) ∧ lev (hdA fr to a) = lev (tlA fr to a) + 1) ∨ (lev v ≤ lev (hdA fr to a) ∧ lev (tlA fr to a) = lev (hdA fr to a) + 1)
  nb : ∀ u, u < n → nxt u ≤ nxt' u ∧ nxt' u ≤ (arcsL fr to m u).length
  nl : ∀ u, u < n → lev u < lev v → nxt' u = nxt u
  z : x = 0 → room' = room ∧ (DdP n m fr to t lev room nxt → DdP n m fr to t lev room nxt')

section
variable {own : Own} {h : H} {bd bn n m s t : Nat} {fr to : Nat → Nat} {cap room lev nxt : Nat → Int}
theorem AlR.refl (R : RmP m cap room) (hb : ∀ u, u < n → 0 ≤ nxt u ∧ nxt u ≤ (arcsL fr to m u).length) (v : Nat) (x : Int) (hx : x = 0 ∨ v = t) :
    AlR n m fr to cap t lev room nxt room nxt v x := by
  refine ⟨R, fun u => ?_, fun a _ h => absurd rfl h, fun u hu => ⟨Int.le_refl _, (hb u hu).2⟩, fun _ _ _ => rfl, fun _ => ⟨rfl, id⟩⟩
  rcases hx with rfl | rfl
  · split <;> split <;> omega
  · omega

theorem along_T (hc : ∀ i, i < m → cap i ≤ 1048576) (hn : ∀ i, i < m → fr i < n ∧ to i < n) (m1 : m ≤ 4096)
    (hl : ∀ u, u < n → -1 ≤ lev u ∧ lev u < n) (n1 : n ≤ 1024) : ∀ (k : Nat) (own : Own) (h : H) (room nxt : Nat → Int) (v : Nat) (most : Int), v < n → n - lev v ≤ k → Dn own h bd bn n m fr to s t room lev nxt →
    RmP m cap room → (∀ u, u < n → 0 ≤ nxt u ∧ nxt u ≤ (arcsL fr to m u).length) → 0 ≤ most → most ≤ 4611686018427387904 →
    T Tryz.prog F.maxflow_dinic_along [.pointer (some (bk bd)), .int .i64 v, .int .i64 most] h fun r h' => ∃ x room' nxt', r = .ret (.int .i64 x) ∧ Fm [2, 7] own h own h' ∧
      Dn own h' bd bn n m fr to s t room' lev nxt' ∧ AlR n m fr to cap t lev room nxt room' nxt' v x ∧ 0 ≤ x ∧ x ≤ most ∧ (x = 0 → most ≠ 0 → v ≠ t ∧ nxt' v = (arcsL fr to m v).length) := by
  intro k
  induction k with
  | zero => intro own h room nxt v most hv hk; have := hl v hv; omega
  | succ k ih =>
    intro own h room nxt v most hv hk D R hb hm0 hm1
    have D0 := D
    refine E_maxflow_dinic_along ?_
    unfold B_maxflow_dinic_along
    obtain ⟨vl, vn, k5, k6, k7⟩ := D.ex
    obtain ⟨vto, vroom, vout, outs, k4, k1, k2, k3, ka⟩ := D.net.ex
    refine ⟨_, k5.ld rfl, _, k4.ld rfl, ifP_of (fun h1 => ?_) (fun h1 => ?_)⟩
    · have : v = t := by have := of_decide_eq_true h1; omega
      subst this
      refine ⟨most, room, nxt, rfl, Fm.refl, D0, AlR.refl R hb _ _ (.inr rfl), hm0, Int.le_refl _, fun h h' => absurd h h'⟩
    have hvt : v ≠ t := by have := of_decide_eq_false h1; omega
    refine ifP_of (fun h2 => ?_) (fun h2 => ?_)
    · have h2 := of_decide_eq_true h2
      subst h2
      exact ⟨0, room, nxt, rfl, Fm.refl, D0, AlR.refl R hb _ _ (.inl rfl), Int.le_refl _, Int.le_refl _, fun _ h => absurd rfl h⟩
    have hmn := of_decide_eq_false h2
    clear k5 k6 k7 k4 k1 k2 k3 ka h1 h2 D
    let I : (Int × Unit) → H → Nat → Prop := fun p q k => ∃ room7 nxt7, Fm [2, 7] own h own q ∧ Dn own q bd bn n m fr to s t room7 lev nxt7 ∧ AlR n m fr to cap t lev room nxt room7 nxt7 v p.1 ∧
      0 ≤ p.1 ∧ p.1 < most ∧ (k : Int) = (arcsL fr to m v).length - nxt7 v
    refine ⟨fun p q => ∃ k, I p q k, rk I, rk_wf I, ⟨((arcsL fr to m v).length - nxt v).toNat, room, nxt, Fm.refl, D0, AlR.refl R hb _ _ (.inl rfl), Int.le_refl _, by show 0 < most; omega, by have := hb v hv; omega⟩, ?_⟩
    intro sent q hI
    obtain ⟨room7, nxt7, F, D, A, hs0, hs1, hkm⟩ := mu_spec hI
    generalize hkk : mu I ((sent, ()), q) = km at *
    change 0 ≤ sent at hs0
    change sent < most at hs1
    change AlR n m fr to cap t lev room nxt room7 nxt7 v sent at A
    obtain ⟨vl, vn, k5, k6, k7⟩ := D.ex
    obtain ⟨vto, vroom, vout, outs, k4, k1, k2, k3, ka⟩ := D.net.ex
    have hb7 : ∀ u, u < n → 0 ≤ nxt7 u ∧ nxt7 u ≤ (arcsL fr to m u).length := fun u hu => ⟨Int.le_trans (hb u hu).1 (A.nb u hu).1, (A.nb u hu).2⟩
    obtain ⟨l, hl7⟩ : ∃ l : Nat, nxt7 v = l := ⟨(nxt7 v).toNat, by have := hb7 v hv; omega⟩
    have hlen := arcsL_length (fr := fr) (to := to) (v := v) (i := m)
    refine ⟨_, k5.ld rfl, k7.rdI hv ?_⟩
    refine ⟨_, k5.ld rfl, _, k4.ld rfl, k3.rdV hv ?_⟩
    refine (ka v hv).len (natV_length _) fun _ _ => ?_
    rw [hl7]
    refine ifP_of (fun h1 => ?_) (fun h1 => ?_)
    · have hla : l < (arcsL fr to m v).length := by have := of_decide_eq_true h1; omega
      have ha := mem_arcsL.1 (List.getElem_mem hla)
      generalize haa : (arcsL fr to m v)[l] = a at ha
      have hw := hd_lt hn ha.1
      let J : (Int × Unit) → H → Prop := fun p q => ∃ room7 nxt7, Fm [2, 7] own h own q ∧ Dn own q bd bn n m fr to s t room7 lev nxt7 ∧ AlR n m fr to cap t lev room nxt room7 nxt7 v p.1 ∧
        0 ≤ p.1 ∧ p.1 < most ∧ nxt7 v = l ∧ (p.1 = 0 → 0 < room7 a → lev (hdA fr to a) = lev v + 1 → hdA fr to a ≠ t ∧ nxt7 (hdA fr to a) = (arcsL fr to m (hdA fr to a)).length)
      refine ⟨J, ?_, ?_⟩
      · refine ⟨_, k5.ld rfl, _, k4.ld rfl, k3.rdV hv ?_⟩
        refine ⟨_, k5.ld rfl, k7.rdI hv ?_⟩
        rw [hl7]
        refine (ka v hv).rd (natV_get hla) ?_
        rw [haa]
        refine ⟨_, k5.ld rfl, _, k4.ld rfl, k1.rdI ha.1 ?_⟩
        refine ⟨_, k5.ld rfl, _, k4.ld rfl, k2.rdI ha.1 ?_⟩
        have skip : (0 < room7 a → lev (hdA fr to a) = lev v + 1 → False) → J (sent, ()) q := fun hno =>
          ⟨room7, nxt7, F, D, A, hs0, hs1, hl7, fun _ h1 h2 => (hno h1 h2).elim⟩
        refine ifP_of (fun h3 => skip fun h _ => by have := of_decide_eq_true h3; omega) (fun h3 => ?_)
        have hr0 : 0 < room7 a := by have := of_decide_eq_false h3; have := A.rm.pos a ha.1; omega
        refine ⟨_, k5.ld rfl, k6.rdI hw ?_⟩
        refine ⟨_, k5.ld rfl, k6.rdI hv ?_⟩
        have hlv := hl v hv
        have ew : IntKind.i64.wrap (lev v + 1) = lev v + 1 := w64_in (by omega) (by omega)
        rw [ew]
        refine ifP_of (fun h4 => skip fun _ h => by simp [h] at h4) (fun h4 => ?_)
        have hlw : lev (hdA fr to a) = lev v + 1 := by simpa using h4
        refine ⟨_, k5.ld rfl, _, k4.ld rfl, k2.rdI ha.1 ?_⟩
        have ew2 : IntKind.i64.wrap (most - sent) = most - sent := w64_in (by omega) (by omega)
        rw [ew2]
        have hrp := A.rm.pr ha.1
        have hrq := A.rm.pos _ (prA_lt ha.1)
        have hca := hc (a / 2) (by omega)
        generalize hask : (if room7 a < most - sent then room7 a else most - sent) = ask
        have hask1 : 0 < ask ∧ ask ≤ room7 a ∧ ask ≤ most - sent := by rw [← hask]; split <;> omega
        refine (ih own q room7 nxt7 (hdA fr to a) ask hw (by omega) D A.rm hb7 (by omega) (by omega)).mono ?_
        rintro _ q2 ⟨x, room8, nxt8, rfl, F8, D8, A8, hx0, hx1, hx2⟩
        refine ⟨x, rfl, ?_⟩
        obtain ⟨vl, vn, k5, k6, k7⟩ := D8.ex
        refine ⟨_, k5.ld rfl, ?_⟩
        have hsame : room8 a = room7 a := by
          apply Classical.byContradiction
          intro hne
          rcases A8.ch a ha.1 hne with ⟨h1, h2⟩ | ⟨h1, h2⟩
          · rw [ha.2] at h1; omega
          · rw [ha.2] at h2; omega
        have hrp8 := A8.rm.pr ha.1
        have hrq8 := A8.rm.pos _ (prA_lt ha.1)
        refine (send_T D8.net m1 ha.1 (x := x) (by omega) (by omega)).mono ?_
        rintro _ q3 ⟨rfl, F9, N9⟩
        refine ⟨rfl, ?_⟩
        have ew3 : IntKind.i64.wrap (sent + x) = sent + x := w64_in (by omega) (by omega)
        rw [ew3]
        have F10 : Fm [2, 7] own h own q3 := (F.trans F8).trans (F9.mono (by simp))
        have D10 : Dn own q3 bd bn n m fr to s t (sndR room8 a x) lev nxt8 := ⟨N9, vl, vn, k5.fm F9 (by simp <;> omega), k6.fm F9 (by simp <;> omega), k7.fm F9 (by simp <;> omega)⟩
        have n8 : nxt8 v = l := by rw [A8.nl v hv (by omega)]; exact hl7
        have A10 : AlR n m fr to cap t lev room nxt (sndR room8 a x) nxt8 v (sent + x) := by
          refine ⟨A8.rm.snd ha.1 hx0 (by omega), fun u => ?_, fun b hb hne => ?_, fun u hu => ⟨Int.le_trans (A.nb u hu).1 (A8.nb u hu).1, (A8.nb u hu).2⟩, fun u hu hlu => ?_, fun hz => ?_⟩
          · rw [out_snd ha.1, A8.out, A.out, ha.2]
            by_cases e1 : v = u <;> by_cases e2 : t = u <;> by_cases e3 : hdA fr to a = u <;> simp [e1, e2, e3] <;> omega
          · by_cases e1 : b = a
            · subst e1; exact .inl ⟨by rw [ha.2]; omega, by rw [ha.2]; exact hlw⟩
            · by_cases e2 : b = prA a
              · subst e2
                rw [tl_pr, hd_pr, ha.2]; exact .inr ⟨by omega, hlw⟩
              · rw [sndR_o e1 e2] at hne
                by_cases e3 : room8 b = room7 b
                · exact A.ch b hb (by rw [← e3]; exact hne)
                · rcases A8.ch b hb e3 with ⟨h1, h2⟩ | ⟨h1, h2⟩
                  · exact .inl ⟨by omega, h2⟩
                  · exact .inr ⟨by omega, h2⟩
          · rw [A8.nl u hu (by omega)]; exact A.nl u hu hlu
          · have hx : x = 0 := by omega
            have hs : sent = 0 := by omega
            subst hx
            obtain ⟨r1, d1⟩ := A.z hs
            obtain ⟨r2, d2⟩ := A8.z rfl
            rw [sndR_0]
            refine ⟨r2.trans r1, fun d => ?_⟩
            have := d2 (by rw [r1]; exact d1 d)
            rwa [r1] at this
        refine ifP_of (fun h5 => ?_) (fun h5 => ?_)
        · have h5 := of_decide_eq_true h5
          exact ⟨sent + x, _, _, rfl, F10, D10, A10, by omega, by omega, fun h => by omega⟩
        · have h5 := of_decide_eq_false h5
          refine ⟨_, _, F10, D10, A10, by show 0 ≤ sent + x; omega, by show sent + x < most; omega, n8, ?_⟩
          intro hz _ _
          have hz : sent + x = 0 := hz
          obtain ⟨h6, h7⟩ := hx2 (by omega) (by omega)
          exact ⟨h6, h7⟩
      · rintro sent2 q2 ⟨room8, nxt8, F8, D8, A8, hs0, hs1, hl8, hdd⟩
        change 0 ≤ sent2 at hs0
        change sent2 < most at hs1
        change AlR n m fr to cap t lev room nxt room8 nxt8 v sent2 at A8
        change sent2 = 0 → _ at hdd
        obtain ⟨vl, vn, k5, k6, k7⟩ := D8.ex
        refine ⟨_, k5.ld rfl, k7.rdI hv ?_⟩
        rw [hl8]
        refine k7.setI hv ?_
        intro q3 F9 k7
        rw [i64_inc (by omega)] at k7
        have F9' : Fm [2, 7] own q2 own q3 := F9.mono (by simp)
        refine mu_next (I := I) (k := (arcsL fr to m v).length - (l + 1)) ⟨room8, _, F8.trans F9', ⟨D8.net.fm F9 (by simp), vl, vn, k5.fm F9 (by simp <;> omega), k6.fm F9 (by simp <;> omega), k7⟩, ?_, hs0, hs1, ?_⟩ (by rw [hkk]; omega)
        · have up_v : upd nxt8 v (((l + 1 : Nat) : Int)) v = ((l + 1 : Nat) : Int) := if_pos rfl
          have up_o : ∀ u, u ≠ v → upd nxt8 v (((l + 1 : Nat) : Int)) u = nxt8 u := fun u hu => if_neg hu
          refine ⟨A8.rm, A8.out, A8.ch, fun u hu => ?_, fun u hu hlu => ?_, fun hz => ⟨(A8.z hz).1, fun d => ?_⟩⟩
          · by_cases e : u = v
            · subst e
              rw [up_v]
              have := A8.nb u hu
              omega
            · rw [up_o u e]; exact A8.nb u hu
          · rw [up_o u (by rintro rfl; omega)]; exact A8.nl u hu hlu
          · have d8 := (A8.z hz).2 d
            have er := (A8.z hz).1
            have grow : ∀ u, u < n → nxt8 u = (arcsL fr to m u).length → upd nxt8 v (((l + 1 : Nat) : Int)) u = (arcsL fr to m u).length := by
              intro u hu e
              by_cases e2 : u = v
              · subst e2; omega
              · rw [up_o u e2]; exact e
            intro u hu b hb hr hlb
            by_cases e : u = v
            · subst e
              rw [up_v, Int.toNat_natCast, List.take_succ_eq_append_getElem hla] at hb
              rcases List.mem_append.1 hb with hb | hb
              · have hbw := hd_lt hn (mem_arcsL.1 (List.mem_of_mem_take hb)).1
                obtain ⟨h1, h2⟩ := d8 u hu b (by rw [hl8, Int.toNat_natCast]; exact hb) hr hlb
                exact ⟨h1, grow _ hbw h2⟩
              · have : b = a := by rw [List.mem_singleton] at hb; rw [hb]; exact haa
                subst this
                obtain ⟨h1, h2⟩ := hdd hz (by rw [er]; exact hr) hlb
                exact ⟨h1, grow _ hw h2⟩
            · rw [up_o u e] at hb
              have hbw := hd_lt hn (mem_arcsL.1 (List.mem_of_mem_take hb)).1
              obtain ⟨h1, h2⟩ := d8 u hu b hb hr hlb
              exact ⟨h1, grow _ hbw h2⟩
        · show _ = _ - upd nxt8 v _ v
          unfold upd
          rw [if_pos rfl]; omega
    · have := of_decide_eq_false h1
      have := hb7 v hv
      exact ⟨sent, room7, nxt7, rfl, F, D, A, hs0, by omega, fun _ _ => ⟨hvt, by omega⟩⟩
end

end Go.Proofs.YtdcamadeblojdaaGreat

namespace Go.Proofs.YtdcamadeblojdaaGreat
open Go
set_option linter.unusedVariables false
set_option linter.unusedSimpArgs false

/-- A flow in the net's rooms. -/
structure FlS (n m : Nat) (fr to : Nat → Nat) (cap : Nat → Int) (s t : Nat) (room : Nat → Int) : Prop where
  rm : RmP m cap room
  cons : ∀ v, v < n → v ≠ s → v ≠ t → OutF m fr to (onR room) v = 0
section
variable {own : Own} {h : H} {bd bn n m s t : Nat} {fr to : Nat → Nat} {cap room lev nxt : Nat → Int}
theorem onR_bd (R : RmP m cap room) (hc : ∀ i, i < m → cap i ≤ 1048576) : ∀ i, i < m → 0 ≤ onR room i ∧ onR room i ≤ 1048576 := by
  intro i hi
  have := R.sum i hi
  have h1 := R.pos (2 * i) (by omega)
  have h2 := R.pos (2 * i + 1) (by omega)
  have := hc i hi
  unfold onR; omega
theorem out_bd {f : Nat → Int} (h : ∀ i, i < m → 0 ≤ f i ∧ f i ≤ 1048576) (m1 : m ≤ 4096) (v : Nat) : -4294967296 ≤ OutF m fr to f v ∧ OutF m fr to f v ≤ 4294967296 := by
  have a : OutF m fr to f v ≤ m * 1048576 := sumN_bd fun i hi => by have := h i hi; split <;> split <;> omega
  have b : sumN m (fun i => -1 * ((if fr i = v then f i else 0) - (if to i = v then f i else 0))) ≤ m * 1048576 := sumN_bd fun i hi => by have := h i hi; split <;> split <;> omega
  rw [sumN_mul] at b
  have b : -1 * OutF m fr to f v ≤ m * 1048576 := b
  omega
theorem FlS.flow (F : FlS n m fr to cap s t room) : FlowP n m fr to cap s t (onR room) :=
  ⟨fun i hi => by
    have := F.rm.sum i hi
    have h1 := F.rm.pos (2 * i) (by omega)
    have h2 := F.rm.pos (2 * i + 1) (by omega)
    unfold onR; omega, F.cons⟩
theorem rch_iff (R : RmP m cap room) {u v : Nat} : Rch (ArS m fr to room) u v ↔ Rch (RsS m fr to cap (onR room)) u v :=
  ⟨Rch.mono fun _ _ h => (rs_arc R).2 h, Rch.mono fun _ _ h => (rs_arc R).1 h⟩

/-- If nothing went, the sink has no level. -/
theorem dead_no (L : LevP n m fr to room s lev) (hn : ∀ i, i < m → fr i < n ∧ to i < n) (ht : t < n) (hlt : 0 ≤ lev t) (d : DdP n m fr to t lev room nxt) (hs : s ≠ t ∧ nxt s = (arcsL fr to m s).length) : False := by
  have key : ∀ k : Nat, ∀ w, w < n → lev w = k → w ≠ t ∧ nxt w = (arcsL fr to m w).length := by
    intro k
    induction k with
    | zero => intro w hw e; rw [L.one w hw e]; exact hs
    | succ k ih =>
      intro w hw e
      obtain ⟨a, ha, h1, h2, h3⟩ := L.pred w hw (by omega)
      have hu := tl_lt hn ha
      obtain ⟨_, h4⟩ := ih _ hu (by omega)
      have := d _ hu a (by rw [h4, Int.toNat_natCast, List.take_length]; exact mem_arcsL.2 ⟨ha, rfl⟩) h2 (by rw [h1]; omega)
      rwa [h1] at this
  exact (key (lev t).toNat t ht (by omega)).1 rfl

theorem dfill_T (hc : ∀ i, i < m → cap i ≤ 1048576) (hn : ∀ i, i < m → fr i < n ∧ to i < n) (m1 : m ≤ 4096) (n1 : n ≤ 1024) (hs : s < n) (ht : t < n) {x1 x2 : Value}
    (N : Net own h bn n m fr to s t room) (B : B1 own h 5 bd [.pointer (some (bk bn)), x1, x2]) (F0 : FlS n m fr to cap s t room) (hst : s ≠ t) :
    T Tryz.prog F.maxflow_dinic_fill [.pointer (some (bk bd))] h fun r h' => ∃ own' room', r = .ret (.tuple ⟨[]⟩) ∧ Fm [2, 5, 6, 7] own h own' h' ∧ Net own' h' bn n m fr to s t room' ∧
      FlS n m fr to cap s t room' ∧ ¬ Rch (ArS m fr to room') s t := by
  refine E_maxflow_dinic_fill ?_
  unfold B_maxflow_dinic_fill
  let I : Unit → H → Nat → Prop := fun _ q k => ∃ own' room' x1 x2, Fm [2, 5, 6, 7] own h own' q ∧ Net own' q bn n m fr to s t room' ∧ B1 own' q 5 bd [.pointer (some (bk bn)), x1, x2] ∧ FlS n m fr to cap s t room' ∧
    (k : Int) = 4294967296 - OutF m fr to (onR room') s
  have bdk : ∀ {room' : Nat → Int}, FlS n m fr to cap s t room' → ∃ k : Nat, (k : Int) = 4294967296 - OutF m fr to (onR room') s := by
    intro room' F
    have := out_bd (fr := fr) (to := to) (onR_bd F.rm hc) m1 s
    exact ⟨(4294967296 - OutF m fr to (onR room') s).toNat, by omega⟩
  obtain ⟨k0, hk0⟩ := bdk F0
  refine ⟨fun p q => ∃ k, I p q k, rk I, rk_wf I, ⟨k0, own, room, x1, x2, Fm.refl, N, B, F0, hk0⟩, ?_⟩
  clear F0 N B hk0
  intro q hI
  obtain ⟨own1_, room1, x1, x2, F, N, B, F0, hkm⟩ := mu_spec hI
  generalize hkk : mu I ((), q) = km at *
  obtain ⟨vto, vroom, vout, outs, k4, k1, k2, k3, ka⟩ := N.ex
  refine ptrP_mk (ptrP_mk ⟨_, B.ld rfl, _, B.ld rfl, ptrP_mk ⟨_, k4.ld rfl, ?_⟩⟩)
  refine (levels_T N hn n1 m1 hs).mono ?_
  rintro _ q2 ⟨x2_, bl, lev, rfl, hbl, Sl6, L⟩
  refine rt_ret ?_
  have k6 := S1.of (i := 6) Sl6 own1_
  have F2 : Fm [] own1_ q (own1 own1_ bl 6) q2 := Fm.new x2_ hbl
  have F := F.trans (F2.mono (by simp))
  have B := B.fm F2 (by simp <;> omega)
  have N := N.new (i := 6) x2_ hbl
  generalize own1 own1_ bl 6 = own2 at *
  clear F2 k4 k1 k2 k3 ka hbl x2_
  refine ptrP_mk (oneP_mk ?_)
  refine B.st (by simp) ?_
  intro q3 F2 B
  simp only [List.set] at B
  have N := N.fm F2 (by simp <;> omega)
  have k6 := k6.fm F2 (by simp <;> omega)
  have F := F.trans (F2.mono (by simp))
  clear F2
  obtain ⟨vto, vroom, vout, outs, k4, k1, k2, k3, ka⟩ := N.ex
  refine ptrP_mk (ptrP_mk ⟨_, B.ld rfl, _, B.ld rfl, ptrP_mk ⟨_, k4.ld rfl, ?_⟩⟩)
  refine k6.rdI ht ?_
  refine ifP_of (fun h1 => ?_) (fun h1 => ?_)
  · have h1 := of_decide_eq_true h1
    refine ⟨own2, room1, rfl, F, N, F0, fun r => ?_⟩
    have := (L.iff hn ht).2 r
    omega
  · have h1 := of_decide_eq_false h1
    refine ptrP_mk ⟨_, B.ld rfl, ptrP_mk ⟨_, k4.ld rfl, k3.len (va_length _ _) fun _ _ => ?_⟩⟩
    refine mk_ints 7 (by omega) (by omega) ?_
    intro b29 q4 hb29 x4 S7
    have k7 := S7 own2
    have F := F.trans (Fm.new (i := 7) x4 hb29)
    have B := B.nw (j := 7) x4 hb29
    have k6 := k6.nw (j := 7) x4 hb29
    have N := N.new (i := 7) x4 hb29
    generalize own1 own2 b29 7 = own3 at *
    refine ptrP_mk ?_
    rw [Int.toNat_natCast]
    refine B.st (by simp) ?_
    intro q5 F2 B
    simp only [List.set] at B
    have N := N.fm F2 (by simp <;> omega)
    have k6 := k6.fm F2 (by simp <;> omega)
    have k7 := k7.fm F2 (by simp <;> omega)
    have F := F.trans (F2.mono (by simp))
    clear F2 k4 k1 k2 k3 ka
    obtain ⟨vto, vroom, vout, outs, k4, k1, k2, k3, ka⟩ := N.ex
    refine ptrP_mk ⟨_, B.ld rfl, ptrP_mk ⟨_, k4.ld rfl, ?_⟩⟩
    have D : Dn own3 q5 bd bn n m fr to s t room1 lev fun _ => 0 := ⟨N, _, _, B, k6, k7⟩
    refine (along_T hc hn m1 (fun u hu => L.bd u hu) n1 (n - lev s).toNat own3 q5 room1 _ s 4611686018427387904 hs (by have := L.bd s hs; omega) D F0.rm (fun u hu => ⟨Int.le_refl _, by omega⟩) (by omega) (Int.le_refl _)).mono ?_
    rintro _ q6 ⟨x, room2, nxt2, rfl, F6, D6, A, hx0, hx1, hx2⟩
    refine ⟨x, rfl, ?_⟩
    have F := F.trans (F6.mono (by simp))
    obtain ⟨vl, vn, B, _, _⟩ := D6.ex
    have F2 : FlS n m fr to cap s t room2 := ⟨A.rm, fun v hv h1 h2 => by
      rw [A.out, F0.cons v hv h1 h2, if_neg (fun h => h1 h.symm), if_neg (fun h => h2 h.symm)]; rfl⟩
    have hpos : x ≠ 0 := by
      intro e
      obtain ⟨e1, d⟩ := A.z e
      exact dead_no L hn ht (by omega) (d (fun u _ a ha => by simp at ha)) (hx2 e (by omega))
    have ev := A.out s
    rw [if_pos rfl, if_neg (fun h => hst h.symm)] at ev
    obtain ⟨k2, hk2⟩ := bdk F2
    exact mu_next (I := I) (k := k2) ⟨own3, room2, _, _, F, D6.net, B, F2, hk2⟩ (by rw [hkk]; omega)
end

end Go.Proofs.YtdcamadeblojdaaGreat

namespace Go.Proofs.YtdcamadeblojdaaGreat
open Go
set_option linter.unusedVariables false
set_option linter.unusedSimpArgs false

/-- The slice v holds vs, somewhere in a block of the i-th owner. -/
def Sq (own : Own) (h : H) (i : Nat) (v : Value) (vs : List Value) : Prop :=
  (vs = [] ∧ v = .slice none 0 0) ∨ ∃ b pre zs post c e, own b = i ∧ v = .slice (some ⟨b, pre.length, none⟩) vs.length c ∧ h b = some (.cells ⟨pre ++ (vs ++ (zs ++ post))⟩ e (0, 0)) ∧ vs.length + zs.length = c
section
variable {own own' : Own} {h h' : H} {i : Nat} {v : Value} {vs : List Value}
theorem Sq.nil : Sq own h i (.slice none 0 0) [] := .inl ⟨rfl, rfl⟩
theorem Sq.fm {M : List Nat} (s : Sq own h i v vs) (F : Fm M own h own' h') (hM : i ∉ M) : Sq own' h' i v vs := by
  rcases s with s | ⟨b, pre, zs, post, c, e, hb, h1, h2, h3⟩
  · exact .inl s
  · exact .inr ⟨b, pre, zs, post, c, e, (F.stay b _ h2).2.trans hb, h1, F.keep b _ h2 (by rw [hb]; exact hM), h3⟩
theorem Sq.shape (s : Sq own h i v vs) : ∃ a c, v = .slice a vs.length c := by
  rcases s with ⟨rfl, rfl⟩ | ⟨b, pre, zs, post, c, e, hb, h1, h2, h3⟩
  · exact ⟨_, _, rfl⟩
  · exact ⟨_, _, h1⟩
theorem Sq.isS (s : Sq own h i v vs) : ∃ a l c, v = .slice a l c := let ⟨a, c, e⟩ := s.shape; ⟨a, _, c, e⟩
theorem Sq.len {l : Nat} {K : Option Addr → Nat → Nat → Prop} (s : Sq own h i v vs) (hl : vs.length = l) (k : ∀ a c, K a l c) : slcP v K := by
  obtain ⟨a, c, rfl⟩ := s.shape
  rw [hl]; exact k _ _
theorem Sq.at {j : Nat} {x : Value} {K : Addr → Prop} (s : Sq own h i v vs) (hj : vs[j]? = some x) (k : ∀ a : Addr, hcell h a = some x → K a) : ixS v (j : Int) 1 K := by
  have hl := (List.getElem?_eq_some_iff.1 hj).1
  rcases s with ⟨rfl, rfl⟩ | ⟨b, pre, zs, post, c, e, hb, rfl, h2, h3⟩
  · simp at hl
  · refine ⟨by omega, by omega, k _ ?_⟩
    rw [Int.toNat_natCast, bk_add2, hcell_at h2, List.getElem?_toArray, Nat.mul_one, List.getElem?_append_right (by omega),
      show pre.length + j - pre.length = j by omega, List.getElem?_append_left hl]
    exact hj
theorem Sq.rd {j : Nat} {x : Int} {K : Int → Prop} (s : Sq own h i v vs) (hj : vs[j]? = some (.int .i64 x)) (k : K x) : ixS v (j : Int) 1 fun a => ldI h a .i64 K :=
  s.at hj fun a e => ⟨x, e, k⟩
/-- The first one gone: v[1:]. -/
theorem Sq.tl {x : Value} {xs : List Value} {K : Option Addr → Nat → Nat → Prop} (s : Sq own h i v (x :: xs))
    (k : ∀ (a : Option Addr) (l c : Nat), (l : Int) = xs.length + 1 → 1 ≤ (l : Int) → (l : Int) ≤ (c : Int) → Sq own h i (sliceV a c 1 (l : Int) 1) xs → K a l c) : slcP v K := by
  rcases s with ⟨h1, _⟩ | ⟨b, pre, zs, post, c, e, hb, rfl, h2, h3⟩
  · cases h1
  · refine k _ _ _ (by simp) (by simp; omega) (by simp at h3 ⊢; omega) ?_
    unfold sliceV
    simp only [List.length_cons] at h3 ⊢
    have e1 : ((1 : Int)).toNat = 1 := rfl
    have e2 : (((xs.length + 1 : Nat) : Int)).toNat = xs.length + 1 := Int.toNat_natCast _
    rw [e1, e2]
    by_cases hc : c = 1
    · subst hc
      have : xs = [] := List.length_eq_zero_iff.1 (by omega)
      subst this
      rw [if_pos rfl]
      exact .inr ⟨b, pre, [], x :: (zs ++ post), 0, e, hb, rfl, by simpa using h2, rfl⟩
    · rw [if_neg hc]
      refine .inr ⟨b, pre ++ [x], zs, post, c - 1, e, hb, ?_, by simpa using h2, by omega⟩
      simp [Addr.add]
/-- One more at the end. -/
theorem Sq.push {x z : Value} {ex : Nat} {K : Nat → H → Value → H → Prop} {e bytes : Nat} (s : Sq own h i v vs)
    (one : x.oneCell' = true) (hb : bytes ≤ 8) (hl : vs.length < 1000000)
    (k : ∀ bx hm p' own' h', h bx = none → Ext h hm → Fm [i] own h own' h' → Sq own' h' i p' (vs ++ [x]) → K bx hm p' h') :
    newP h (.cells ⟨[x]⟩ ex (0, 0)) fun bx hm => apP v (.slice (some (bk bx)) 1 1) hm 1 e bytes [z] (K bx hm) := by
  refine new_put ?_
  intro bx hm hbx xm hx
  have hsrc : srcP hm (some (bk bx)) (1 * 1) [x] := by
    refine ⟨rfl, fun j v hj => ?_⟩
    rw [bk_add, hcell_at hx, List.getElem?_toArray]
    exact hj
  have hzl : ∀ m, (zrep [z] m).length = m := by intro m; simp [zrep]
  rcases s with ⟨rfl, rfl⟩ | ⟨b, pre, zs, post, c, eb, hob, rfl, h2, h3⟩
  · refine ⟨[x], hsrc, fun hle => by omega, fun hlt => ⟨?_, [], ⟨rfl, rfl⟩, fun cap hcap => ?_⟩⟩
    · have := nextcap_le hlt
      calc _ ≤ (2 * (0 + 1) + 192) * bytes := Nat.mul_le_mul_right _ this
        _ ≤ (2 * (0 + 1) + 192) * 8 := Nat.mul_le_mul_left _ hb
        _ ≤ _ := by omega
    · refine new_put ?_
      intro b g hbn x1 e1
      rw [Nat.zero_add] at e1 hcap ⊢
      refine k bx hm _ (own1 own b i) g hbx xm (Fm.new (xm.trans' x1) (xm.new hbn)) (.inr ⟨b, [], zrep [z] (cap - 1), [], cap, e, own1_at, rfl, by rw [e1]; simp, ?_⟩)
      rw [hzl]; simp; omega
  · have h2m := xm _ _ h2
    refine ⟨[x], hsrc, fun hle => ⟨fun _ => ?_, by simpa using one, ?_⟩, fun hlt => ⟨?_, vs, ⟨by rw [Nat.mul_one], ?_⟩, fun cap hcap => ?_⟩⟩
    · rw [bk_add2]
      refine ⟨_, _, h2m, rfl, ?_⟩
      simp only [List.size_toArray, List.length_append, List.length_singleton]
      omega
    · rw [bk_add2]
      cases zs with
      | nil => simp at h3; omega
      | cons z0 zs =>
        have e2 : hset hm ⟨b, pre.length + vs.length * 1, none⟩ [x] b = some (.cells ⟨pre ++ ((vs ++ [x]) ++ (zs ++ post))⟩ eb (0, 0)) := by
          unfold hset
          rw [if_pos rfl, h2m]
          simp only [Option.map_some, setR, Nat.mul_one]
          rw [List.setIfInBounds_toArray]
          congr 3
          rw [List.set_append_right _ _ (by omega), show pre.length + vs.length - pre.length = vs.length by omega, List.set_append_right _ _ (by omega), Nat.sub_self]
          simp
        refine k bx hm _ own _ hbx xm ((Fm.of_ext xm).trans (Fm.kp (b := b) ?_ hob ⟨_, e2⟩)) (.inr ⟨b, pre, zs, post, c, eb, hob, by simp, e2, by simp at h3 ⊢; omega⟩)
        intro j o hj hh
        unfold hset
        rw [if_neg hj]; exact hh
    · have := nextcap_le hlt
      calc _ ≤ (2 * (vs.length + 1) + 192) * bytes := Nat.mul_le_mul_right _ this
        _ ≤ (2 * (vs.length + 1) + 192) * 8 := Nat.mul_le_mul_left _ hb
        _ ≤ _ := by omega
    · intro j v hj
      rw [bk_add2, hcell_at h2m, List.getElem?_toArray, List.getElem?_append_right (by omega), show pre.length + j - pre.length = j by omega]
      have := (List.getElem?_eq_some_iff.1 hj).1
      rw [List.getElem?_append_left this]
      exact hj
    · refine new_put ?_
      intro b' g hbn x1 e1
      refine k bx hm _ (own1 own b' i) g hbx xm (Fm.new (xm.trans' x1) (xm.new hbn)) (.inr ⟨b', [], zrep [z] (cap - (vs.length + 1)), [], cap, e, own1_at, by simp, by rw [e1]; simp, ?_⟩)
      rw [hzl]; simp; omega
end

structure LW (α : Type) where
  r : α → α → Prop
  wf : WellFounded r
  tri : ∀ a b c, ¬ r a b → r a c → r b c
def MinW {σ α : Type} (W : LW α) (I : σ → H → α → Prop) (x : σ × H) (b : α) : Prop := I x.1 x.2 b ∧ ∀ c, I x.1 x.2 c → ¬ W.r c b
def rkW {σ α : Type} (W : LW α) (I : σ → H → α → Prop) (x y : σ × H) : Prop := ∃ b, MinW W I y b ∧ ∃ a, MinW W I x a ∧ W.r a b
theorem minW {σ α : Type} {W : LW α} {I : σ → H → α → Prop} {x : σ × H} : ∀ {a : α}, I x.1 x.2 a → ∃ b, MinW W I x b := by
  intro a
  induction a using W.wf.induction with
  | _ a ih =>
    intro h
    by_cases e : ∃ c, I x.1 x.2 c ∧ W.r c a
    · obtain ⟨c, h1, h2⟩ := e
      exact ih c h2 h1
    · exact ⟨a, h, fun c hc hr => e ⟨c, hc, hr⟩⟩
theorem rkW_wf {σ α : Type} (W : LW α) (I : σ → H → α → Prop) : WellFounded (rkW W I) := by
  have key : ∀ b, ∀ y, MinW W I y b → Acc (rkW W I) y := by
    intro b
    induction b using W.wf.induction with
    | _ b ih =>
      intro y hy
      refine ⟨_, fun x ⟨b', hb', a, ha, hr⟩ => ih a ?_ x ha⟩
      apply Classical.byContradiction
      intro hn
      exact hy.2 b' hb'.1 |>.elim (by
        have := W.tri a b b' hn hr
        exact absurd this (hb'.2 b hy.1))
  refine ⟨fun y => ⟨_, fun x ⟨b', hb', a, ha, hr⟩ => key a x ha⟩⟩
theorem muW {σ α : Type} {W : LW α} {I : σ → H → α → Prop} {s : σ} {h : H} (k : ∃ a, I s h a) : ∃ b, I s h b ∧ MinW W I (s, h) b := by
  obtain ⟨a, ha⟩ := k
  obtain ⟨b, hb⟩ := minW (W := W) (x := (s, h)) ha
  exact ⟨b, hb.1, hb⟩
theorem muW_next {σ α : Type} {W : LW α} {I : σ → H → α → Prop} {s s' : σ} {h h' : H} {a b : α} (hb : MinW W I (s, h) b) (i : I s' h' a) (lt : W.r a b) :
    (∃ a, I s' h' a) ∧ rkW W I (s', h') (s, h) := by
  refine ⟨⟨a, i⟩, b, hb, ?_⟩
  obtain ⟨c, hc⟩ := minW (W := W) (x := (s', h')) i
  exact ⟨c, hc, W.tri a c b (hc.2 a i) lt⟩
/-- Four numbers, the first counts most. -/
abbrev N4 := Nat × Nat × Nat × Nat
def r4 (a b : N4) : Prop := a.1 < b.1 ∨ a.1 = b.1 ∧ (a.2.1 < b.2.1 ∨ a.2.1 = b.2.1 ∧ (a.2.2.1 < b.2.2.1 ∨ a.2.2.1 = b.2.2.1 ∧ a.2.2.2 < b.2.2.2))
def W4 : LW N4 where
  r := r4
  wf := by
    have w := (Prod.lex ⟨fun a b : Nat => a < b, Nat.lt_wfRel.wf⟩ (Prod.lex ⟨fun a b : Nat => a < b, Nat.lt_wfRel.wf⟩ (Prod.lex ⟨fun a b : Nat => a < b, Nat.lt_wfRel.wf⟩ ⟨fun a b : Nat => a < b, Nat.lt_wfRel.wf⟩))).wf
    refine Subrelation.wf (r := _) ?_ w
    rintro ⟨a1, a2, a3, a4⟩ ⟨b1, b2, b3, b4⟩ h
    simp only [r4] at h
    rcases h with h | ⟨rfl, h | ⟨rfl, h | ⟨rfl, h⟩⟩⟩
    · exact Prod.Lex.left _ _ h
    · exact Prod.Lex.right _ (Prod.Lex.left _ _ h)
    · exact Prod.Lex.right _ (Prod.Lex.right _ (Prod.Lex.left _ _ h))
    · exact Prod.Lex.right _ (Prod.Lex.right _ (Prod.Lex.right _ h))
  tri := by
    rintro ⟨a1, a2, a3, a4⟩ ⟨b1, b2, b3, b4⟩ ⟨c1, c2, c3, c4⟩ h1 h2
    simp only [r4] at *
    omega

end Go.Proofs.YtdcamadeblojdaaGreat

namespace Go.Proofs.YtdcamadeblojdaaGreat
open Go
set_option linter.unusedVariables false
set_option linter.unusedSimpArgs false

/-- How many nodes have a height. -/
def cntH (n : Nat) (ht : Nat → Int) (k : Int) : Int := sumN n fun u => if ht u = k then 1 else 0
theorem cntH_upd {n v : Nat} {ht : Nat → Int} {y k : Int} (hv : v < n) : cntH n (upd ht v y) k = cntH n ht k - (if ht v = k then 1 else 0) + (if y = k then 1 else 0) := by
  unfold cntH
  have e : (fun u => if upd ht v y u = k then (1 : Int) else 0) = upd (fun u => if ht u = k then 1 else 0) v (if y = k then 1 else 0) := by
    funext u
    unfold upd
    by_cases h : u = v
    · rw [if_pos h, if_pos h]
    · rw [if_neg h, if_neg h]
  rw [e, sumN_upd hv]
theorem cntH_bd {n : Nat} {ht : Nat → Int} {k : Int} : 0 ≤ cntH n ht k ∧ cntH n ht k ≤ n := by
  constructor
  · exact sumN_nonneg fun u _ => by split <;> omega
  · have := sumN_bd (k := n) (c := 1) (f := fun u => if ht u = k then (1 : Int) else 0) fun u _ => by split <;> omega
    unfold cntH; omega
theorem cntH_none {n : Nat} {ht : Nat → Int} {k : Int} (h : cntH n ht k = 0) : ∀ u, u < n → ht u ≠ k := by
  intro u hu e
  have := sumN_all0 (f := fun u => if ht u = k then (1 : Int) else 0) (k := n) (fun u _ => by split <;> omega) (by unfold cntH at h; omega) u hu
  simp [e] at this
/-- Some height among n + 1 has no node. -/
theorem gap_ex {n : Nat} {ht : Nat → Int} (b : Int) : ∃ k : Nat, k < n + 1 ∧ ∀ u, u < n → ht u ≠ b + k := by
  apply Classical.byContradiction
  intro hno
  have h1 : ∀ k, k < n + 1 → 1 ≤ cntH n ht (b + k) := by
    intro k hk
    have := cntH_bd (n := n) (ht := ht) (k := b + k)
    by_cases e : cntH n ht (b + k) = 0
    · exact absurd ⟨k, hk, cntH_none e⟩ hno
    · omega
  have h2 : (n : Int) + 1 ≤ sumN (n + 1) fun k => cntH n ht (b + k) := by
    have := sumN_le (k := n + 1) (f := fun _ => 1) h1
    rw [sumN_const] at this; omega
  unfold cntH at h2
  rw [sumN_swap] at h2
  have h3 : sumN n (fun u => sumN (n + 1) fun k => if ht u = b + k then (1 : Int) else 0) ≤ n * 1 := by
    refine sumN_bd fun u hu => ?_
    by_cases e : ∃ j : Nat, ht u = b + j
    · obtain ⟨j, e⟩ := e
      have : sumN (n + 1) (fun k => if ht u = b + k then (1 : Int) else 0) = sumN (n + 1) (fun k => if j = k then (1 : Int) else 0) := sumN_congr fun k _ => by
        by_cases h : j = k
        · rw [if_pos h, if_pos (by omega)]
        · rw [if_neg h, if_neg (by omega)]
      rw [this, sumN_pt]; split <;> omega
    · rw [sumN_zero]
      · omega
      · intro k _
        rw [if_neg]
        intro h; exact e ⟨k, h⟩
  omega
def CntP (n : Nat) (ht cnt : Nat → Int) : Prop := ∀ k, k < 2 * n + 2 → cnt k = cntH n ht k

/-- pushing in the heap: owners 5 (the struct), 6 (height), 7 (count), 8 (excess), 9 (queue), 10 (next). -/
structure Ps (own : Own) (h : H) (bp bn n m : Nat) (fr to : Nat → Nat) (s t : Nat) (room ht ex nxt : Nat → Int) (Q : List Nat) : Prop where
  net : Net own h bn n m fr to s t room
  ex_ : ∃ vh vc vx vq vn cnt, B1 own h 5 bp [.pointer (some (bk bn)), vh, vc, vx, vq, vn] ∧ S1 own h 6 vh (ints n ht) ∧ S1 own h 7 vc (ints (2 * n + 2) cnt) ∧ CntP n ht cnt ∧
    S1 own h 8 vx (ints n ex) ∧ Sq own h 9 vq (natV Q) ∧ S1 own h 10 vn (ints n nxt)

section
variable {own : Own} {h : H} {bp bn n m s t : Nat} {fr to : Nat → Nat} {room ht ex nxt : Nat → Int} {Q : List Nat}

theorem set_T (P : Ps own h bp bn n m fr to s t room ht ex nxt Q) (n1 : n ≤ 1024) {v x y : Nat} (hv : v < n) (hx : ht v = x) (hx2 : x < 2 * n + 2) (hy : y < 2 * n + 2) :
    T Tryz.prog F.maxflow_pushing_set [.pointer (some (bk bp)), .int .i64 v, .int .i64 y] h fun r h' =>
      r = .ret (.tuple ⟨[]⟩) ∧ Fm [6, 7] own h own h' ∧ Ps own h' bp bn n m fr to s t room (upd ht v y) ex nxt Q := by
  obtain ⟨vh, vc, vx, vq, vn, cnt, k5, k6, k7, C, k8, k9, k10⟩ := P.ex_
  have N := P.net
  refine E_maxflow_pushing_set ?_
  unfold B_maxflow_pushing_set
  refine ⟨_, k5.ld rfl, _, k5.ld rfl, k6.rdI hv ?_⟩
  rw [hx]
  refine k7.rdI hx2 (k7.setI hx2 ?_)
  intro g1 F1 k7
  have N := N.fm F1 (by simp <;> omega)
  have k5 := k5.fm F1 (by simp <;> omega)
  have k6 := k6.fm F1 (by simp <;> omega)
  have k8 := k8.fm F1 (by simp <;> omega)
  have k9 := k9.fm F1 (by simp <;> omega)
  have k10 := k10.fm F1 (by simp <;> omega)
  have b1 := cntH_bd (n := n) (ht := ht) (k := x)
  have c1 := C x hx2
  have ew : IntKind.i64.wrap (cnt x - 1) = cnt x - 1 := w64_in (by omega) (by omega)
  rw [ew] at k7
  refine ⟨_, k5.ld rfl, k6.setI hv ?_⟩
  intro g2 F2 k6
  have N := N.fm F2 (by simp <;> omega)
  have k5 := k5.fm F2 (by simp <;> omega)
  have k7 := k7.fm F2 (by simp <;> omega)
  have k8 := k8.fm F2 (by simp <;> omega)
  have k9 := k9.fm F2 (by simp <;> omega)
  have k10 := k10.fm F2 (by simp <;> omega)
  refine ⟨_, k5.ld rfl, k7.rdI hy (k7.setI hy ?_)⟩
  intro g3 F3 k7
  have N := N.fm F3 (by simp <;> omega)
  have k5 := k5.fm F3 (by simp <;> omega)
  have k6 := k6.fm F3 (by simp <;> omega)
  have k8 := k8.fm F3 (by simp <;> omega)
  have k9 := k9.fm F3 (by simp <;> omega)
  have k10 := k10.fm F3 (by simp <;> omega)
  refine ⟨rfl, ((F1.mono (by simp)).trans (F2.mono (by simp))).trans (F3.mono (by simp)), N, vh, vc, vx, vq, vn, _, k5, k6, k7, ?_, k8, k9, k10⟩
  intro k hk
  have b2 := cntH_bd (n := n) (ht := ht) (k := y)
  have c2 := C y hy
  rw [cntH_upd hv, hx]
  have ck := C k hk
  have up : upd cnt x (cnt x - 1) y = if y = x then cnt x - 1 else cnt y := rfl
  have ew2 : IntKind.i64.wrap (upd cnt x (cnt x - 1) y + 1) = upd cnt x (cnt x - 1) y + 1 := w64_in (by rw [up]; split <;> omega) (by rw [up]; split <;> omega)
  rw [ew2, up]
  unfold upd
  by_cases e1 : k = y <;> by_cases e2 : k = x <;> by_cases e3 : y = x <;> simp [e1, e2, e3] <;> omega

/-- The queue behind a push to w. -/
def giveQ (s t : Nat) (ex : Nat → Int) (Q : List Nat) (w : Nat) : List Nat := if ex w = 0 ∧ w ≠ s ∧ w ≠ t then Q ++ [w] else Q
def giveX (ex : Nat → Int) (v w : Nat) (x : Int) : Nat → Int := upd (upd ex v (ex v - x)) w (upd ex v (ex v - x) w + x)
theorem give_T (P : Ps own h bp bn n m fr to s t room ht ex nxt Q) (hn : ∀ i, i < m → fr i < n ∧ to i < n) (m1 : m ≤ 4096) {v a : Nat} (hv : v < n) (ha : a < 2 * m) {x : Int}
    (hx : x = if room a < ex v then room a else ex v) (hxe : ∀ u, u < n → -1000000000000 ≤ ex u ∧ ex u ≤ 1000000000000) (hr : ∀ a, a < 2 * m → 0 ≤ room a ∧ room a ≤ 1048576) (hx0 : 0 ≤ x) (hQ : Q.length < 1000000) :
    T Tryz.prog F.maxflow_pushing_give [.pointer (some (bk bp)), .int .i64 v, .int .i64 a] h fun r h' =>
      ∃ own', r = .ret (.tuple ⟨[]⟩) ∧ Fm [2, 5, 8, 9] own h own' h' ∧ Ps own' h' bp bn n m fr to s t (sndR room a x) ht (giveX ex v (hdA fr to a) x) nxt (giveQ s t ex Q (hdA fr to a)) := by
  obtain ⟨vh, vc, vx, vq, vn, cnt, k5, k6, k7, C, k8, k9, k10⟩ := P.ex_
  have N := P.net
  have hw := hd_lt hn ha
  generalize hww : hdA fr to a = w at *
  have hx1 : x ≤ room a := by rw [hx]; split <;> omega
  have hra := hr a ha
  have hrp := hr _ (prA_lt ha)
  refine E_maxflow_pushing_give ?_
  unfold B_maxflow_pushing_give
  obtain ⟨vto, vroom, vout, outs, q4, q1, q2, q3, qa⟩ := N.ex
  refine ptrP_mk ⟨_, k5.ld rfl, ptrP_mk ⟨_, q4.ld rfl, q1.rdI ha ?_⟩⟩
  dsimp only
  rw [hww]
  refine ptrP_mk (ptrP_mk ⟨_, k5.ld rfl, k8.rdI hv ⟨_, k5.ld rfl, ptrP_mk ⟨_, q4.ld rfl, q2.rdI ha ?_⟩⟩⟩)
  rw [← hx]
  refine ptrP_mk ⟨_, k5.ld rfl, ?_⟩
  refine (send_T N m1 ha (x := x) (by omega) (by omega)).mono ?_
  rintro _ g1 ⟨rfl, F1, N⟩
  clear q4 q1 q2 q3 qa
  refine rt_ret ⟨rfl, ?_⟩
  have k5 := k5.fm F1 (by simp <;> omega)
  have k6 := k6.fm F1 (by simp <;> omega)
  have k7 := k7.fm F1 (by simp <;> omega)
  have k8 := k8.fm F1 (by simp <;> omega)
  have k9 := k9.fm F1 (by simp <;> omega)
  have k10 := k10.fm F1 (by simp <;> omega)
  refine ⟨fun _ g => ∃ own' vq, Fm [2, 5, 9] own h own' g ∧ Net own' g bn n m fr to s t (sndR room a x) ∧ B1 own' g 5 bp [.pointer (some (bk bn)), vh, vc, vx, vq, vn] ∧ S1 own' g 6 vh (ints n ht) ∧ S1 own' g 7 vc (ints (2 * n + 2) cnt) ∧
    S1 own' g 8 vx (ints n ex) ∧ Sq own' g 9 vq (natV (giveQ s t ex Q w)) ∧ S1 own' g 10 vn (ints n nxt), ?_, ?_⟩
  · have same : giveQ s t ex Q w = Q → ∃ own' vq, Fm [2, 5, 9] own h own' g1 ∧ Net own' g1 bn n m fr to s t (sndR room a x) ∧ B1 own' g1 5 bp [.pointer (some (bk bn)), vh, vc, vx, vq, vn] ∧ S1 own' g1 6 vh (ints n ht) ∧ S1 own' g1 7 vc (ints (2 * n + 2) cnt) ∧
        S1 own' g1 8 vx (ints n ex) ∧ Sq own' g1 9 vq (natV (giveQ s t ex Q w)) ∧ S1 own' g1 10 vn (ints n nxt) := fun e => ⟨own, vq, F1.mono (by simp), N, k5, k6, k7, k8, by rw [e]; exact k9, k10⟩
    refine ptrP_mk ⟨_, k5.ld rfl, k8.rdI hw ?_⟩
    refine ifP_of (fun h1 => ?_) (fun h1 => same (if_neg fun h => by have := of_decide_eq_false h1; omega))
    have h1 := of_decide_eq_true h1
    obtain ⟨vto, vroom, vout, outs, q4, q1, q2, q3, qa⟩ := N.ex
    refine ptrP_mk ⟨_, k5.ld rfl, ptrP_mk ⟨_, q4.ld rfl, ?_⟩⟩
    refine ifP_of (fun h2 => ?_) (fun h2 => same (if_neg fun h => by simp at h2; omega))
    have h2 : w ≠ s := by simp at h2; omega
    refine ptrP_mk ⟨_, k5.ld rfl, ptrP_mk ⟨_, q4.ld rfl, ?_⟩⟩
    refine ifP_of (fun h3 => ?_) (fun h3 => same (if_neg fun h => by simp at h3; omega))
    have h3 : w ≠ t := by simp at h3; omega
    refine ptrP_mk ⟨_, k5.ld rfl, ?_⟩
    refine k9.push rfl (by omega) (by rw [natV_length]; exact hQ) ?_
    intro _ _ vq' own2 g2 _ _ F2 k9
    have N := N.fm F2 (by simp <;> omega)
    have k5 := k5.fm F2 (by simp <;> omega)
    have k6 := k6.fm F2 (by simp <;> omega)
    have k7 := k7.fm F2 (by simp <;> omega)
    have k8 := k8.fm F2 (by simp <;> omega)
    have k10 := k10.fm F2 (by simp <;> omega)
    refine ptrP_mk (oneP_slc k9.isS ?_)
    refine k5.st (by simp) ?_
    intro g3 F3 k5
    simp only [List.set] at k5
    have N := N.fm F3 (by simp <;> omega)
    have k9 := k9.fm F3 (by simp <;> omega)
    have k6 := k6.fm F3 (by simp <;> omega)
    have k7 := k7.fm F3 (by simp <;> omega)
    have k8 := k8.fm F3 (by simp <;> omega)
    have k10 := k10.fm F3 (by simp <;> omega)
    have eQ : natV Q ++ [.int .i64 ((w : Nat) : Int)] = natV (giveQ s t ex Q w) := by
      unfold giveQ
      rw [if_pos ⟨h1, h2, h3⟩]; simp [natV]
    rw [eQ] at k9
    exact ⟨own2, vq', ((F1.mono (by simp)).trans (F2.mono (by simp))).trans (F3.mono (by simp)), N, k5, k6, k7, k8, k9, k10⟩
  · rintro g2 ⟨own2, vq', F2, N, k5, k6, k7, k8, k9, k10⟩
    refine ptrP_mk ⟨_, k5.ld rfl, k8.rdI hv (k8.setI hv ?_)⟩
    intro g3 F3 k8
    have N := N.fm F3 (by simp <;> omega)
    have k5 := k5.fm F3 (by simp <;> omega)
    have k9 := k9.fm F3 (by simp <;> omega)
    have k6 := k6.fm F3 (by simp <;> omega)
    have k7 := k7.fm F3 (by simp <;> omega)
    have k10 := k10.fm F3 (by simp <;> omega)
    have hev := hxe v hv
    have hew := hxe w hw
    have ew : IntKind.i64.wrap (ex v - x) = ex v - x := w64_in (by omega) (by omega)
    rw [ew] at k8
    refine ptrP_mk ⟨_, k5.ld rfl, k8.rdI hw (k8.setI hw ?_)⟩
    intro g4 F4 k8
    have N := N.fm F4 (by simp <;> omega)
    have k5 := k5.fm F4 (by simp <;> omega)
    have k9 := k9.fm F4 (by simp <;> omega)
    have k6 := k6.fm F4 (by simp <;> omega)
    have k7 := k7.fm F4 (by simp <;> omega)
    have k10 := k10.fm F4 (by simp <;> omega)
    have up : upd ex v (ex v - x) w = if w = v then ex v - x else ex w := rfl
    have ew2 : IntKind.i64.wrap (upd ex v (ex v - x) w + x) = upd ex v (ex v - x) w + x := w64_in (by rw [up]; split <;> omega) (by rw [up]; split <;> omega)
    rw [ew2] at k8
    exact ⟨own2, rfl, ((F2.mono (by simp)).trans (F3.mono (by simp))).trans (F4.mono (by simp)), N, vh, vc, vx, vq', vn, cnt, k5, k6, k7, C, k8, k9, k10⟩
end

end Go.Proofs.YtdcamadeblojdaaGreat

namespace Go.Proofs.YtdcamadeblojdaaGreat
open Go
set_option linter.unusedVariables false
set_option linter.unusedSimpArgs false

theorem B1.uniq {own : Own} {h : H} {i j b : Nat} {vs ws : List Value} (a : B1 own h i b vs) (c : B1 own h j b ws) : vs = ws := by
  obtain ⟨_, e, k⟩ := a
  obtain ⟨_, e', k'⟩ := c
  rw [k] at k'
  simp only [Option.some.injEq, Obj.cells.injEq, Array.mk.injEq] at k'
  exact k'.1
/-- Below a gap all nodes up to i are lifted. -/
def gapH (old : Int) (n s i : Nat) (ht : Nat → Int) (u : Nat) : Int := if u < i ∧ old < ht u ∧ ht u ≤ n ∧ u ≠ s then (n + 1 : Nat) else ht u
def gapN (old : Int) (n s i : Nat) (ht nxt : Nat → Int) (u : Nat) : Int := if u < i ∧ old < ht u ∧ ht u ≤ n ∧ u ≠ s then 0 else nxt u
theorem gapH_0 {old : Int} {n s : Nat} {ht : Nat → Int} : gapH old n s 0 ht = ht := by funext u; exact if_neg (by omega)
theorem gapN_0 {old : Int} {n s : Nat} {ht nxt : Nat → Int} : gapN old n s 0 ht nxt = nxt := by funext u; exact if_neg (by omega)
theorem gapH_no {old : Int} {n s i : Nat} {ht : Nat → Int} (h : ¬ (old < ht i ∧ ht i ≤ n ∧ i ≠ s)) : gapH old n s (i + 1) ht = gapH old n s i ht := by
  funext u
  unfold gapH
  by_cases e : u < i ∧ old < ht u ∧ ht u ≤ n ∧ u ≠ s
  · rw [if_pos e, if_pos ⟨by omega, e.2⟩]
  · rw [if_neg e, if_neg]
    rintro ⟨h1, h2⟩
    by_cases e2 : u = i
    · subst e2; exact h h2
    · exact e ⟨by omega, h2⟩
theorem gapN_no {old : Int} {n s i : Nat} {ht nxt : Nat → Int} (h : ¬ (old < ht i ∧ ht i ≤ n ∧ i ≠ s)) : gapN old n s (i + 1) ht nxt = gapN old n s i ht nxt := by
  funext u
  unfold gapN
  by_cases e : u < i ∧ old < ht u ∧ ht u ≤ n ∧ u ≠ s
  · rw [if_pos e, if_pos ⟨by omega, e.2⟩]
  · rw [if_neg e, if_neg]
    rintro ⟨h1, h2⟩
    by_cases e2 : u = i
    · subst e2; exact h h2
    · exact e ⟨by omega, h2⟩
theorem gapH_yes {old : Int} {n s i : Nat} {ht : Nat → Int} (h : old < ht i ∧ ht i ≤ n ∧ i ≠ s) : gapH old n s (i + 1) ht = upd (gapH old n s i ht) i (n + 1 : Nat) := by
  funext u
  unfold gapH upd
  by_cases e2 : u = i
  · subst e2; rw [if_pos ⟨by omega, h⟩, if_pos rfl]
  · rw [if_neg e2]
    dsimp only
    by_cases e : u < i ∧ old < ht u ∧ ht u ≤ n ∧ u ≠ s
    · rw [if_pos e, if_pos ⟨by omega, e.2⟩]
    · rw [if_neg e, if_neg (fun h => e ⟨by omega, h.2⟩)]
theorem gapN_yes {old : Int} {n s i : Nat} {ht nxt : Nat → Int} (h : old < ht i ∧ ht i ≤ n ∧ i ≠ s) : gapN old n s (i + 1) ht nxt = upd (gapN old n s i ht nxt) i 0 := by
  funext u
  unfold gapN upd
  by_cases e2 : u = i
  · subst e2; rw [if_pos ⟨by omega, h⟩, if_pos rfl]
  · rw [if_neg e2]
    dsimp only
    by_cases e : u < i ∧ old < ht u ∧ ht u ≤ n ∧ u ≠ s
    · rw [if_pos e, if_pos ⟨by omega, e.2⟩]
    · rw [if_neg e, if_neg (fun h => e ⟨by omega, h.2⟩)]
theorem gapH_at {old : Int} {n s i : Nat} {ht : Nat → Int} : gapH old n s i ht i = ht i := if_neg (by omega)

theorem min_if (a b : Int) : (if a < b then a else b) ≤ a ∧ (if a < b then a else b) ≤ b ∧ ((if a < b then a else b) = a ∨ (if a < b then a else b) = b) := by
  split <;> omega
section
variable {own : Own} {h : H} {bp bn n m s t : Nat} {fr to : Nat → Nat} {room ht ex nxt : Nat → Int} {Q : List Nat}

/-- What lift comes to. -/
def LiftR (n m : Nat) (fr to : Nat → Nat) (s : Nat) (room ht nxt : Nat → Int) (v : Nat) (ht' nxt' : Nat → Int) : Prop := ∃ low : Nat, ht v + 1 ≤ low ∧ low ≤ 2 * n ∧
  (∀ a, a < 2 * m → tlA fr to a = v → 0 < room a → (low : Int) ≤ ht (hdA fr to a) + 1) ∧
  ((ht' = upd ht v low ∧ nxt' = upd nxt v 0) ∨ ((∀ u, u < n → upd ht v low u ≠ ht v) ∧ ht v < n ∧ ht' = gapH (ht v) n s n (upd ht v low) ∧ nxt' = gapN (ht v) n s n (upd ht v low) (upd nxt v 0)))
theorem lift_T (P : Ps own h bp bn n m fr to s t room ht ex nxt Q) (hn : ∀ i, i < m → fr i < n ∧ to i < n) (n1 : n ≤ 1024) (m1 : m ≤ 4096) {v : Nat} (hv : v < n)
    (hb : ∀ u, u < n → 0 ≤ ht u ∧ ht u ≤ 2 * n) (hvb : ht v + 1 ≤ 2 * n) (hva : ∀ a, a < 2 * m → tlA fr to a = v → 0 < room a → ht v ≤ ht (hdA fr to a)) :
    T Tryz.prog F.maxflow_pushing_lift [.pointer (some (bk bp)), .int .i64 v] h fun r h' => r = .ret (.tuple ⟨[]⟩) ∧ Fm [6, 7, 10] own h own h' ∧
      ∃ ht' nxt', Ps own h' bp bn n m fr to s t room ht' ex nxt' Q ∧ LiftR n m fr to s room ht nxt v ht' nxt' := by
  obtain ⟨vh, vc, vx, vq, vn, cnt, k5, k6, k7, C, k8, k9, k10⟩ := P.ex_
  have N := P.net
  have hbv := hb v hv
  obtain ⟨old, hold⟩ : ∃ old : Nat, ht v = old := ⟨(ht v).toNat, by omega⟩
  refine E_maxflow_pushing_lift ?_
  unfold B_maxflow_pushing_lift
  obtain ⟨vto, vroom, vout, outs, q4, q1, q2, q3, qa⟩ := N.ex
  refine ptrP_mk (ptrP_mk ⟨_, k5.ld rfl, k6.rdI hv ⟨_, k5.ld rfl, ptrP_mk ⟨_, q4.ld rfl, q3.len (va_length _ _) fun _ _ => ?_⟩⟩⟩)
  refine ptrP_mk ⟨_, k5.ld rfl, ptrP_mk ⟨_, q4.ld rfl, q3.rdV hv ?_⟩⟩
  have hlen := arcsL_length (fr := fr) (to := to) (v := v) (i := m)
  refine (qa v hv).len (natV_length _) fun _ _ => ?_
  have ew : IntKind.i64.wrap (2 * (n : Int)) = 2 * (n : Int) := w64_in (by omega) (by omega)
  rw [ew]
  let I : (Int × Int × Unit) → H → Nat → Prop := fun p q k => ∃ j : Nat, p.2.1 = j ∧ j ≤ (arcsL fr to m v).length ∧ k = (arcsL fr to m v).length - j ∧ q = h ∧ ht v + 1 ≤ p.1 ∧ p.1 ≤ 2 * n ∧
    ∀ a ∈ (arcsL fr to m v).take j, 0 < room a → p.1 ≤ ht (hdA fr to a) + 1
  refine ⟨fun p q => ∃ k, I p q k, rk I, rk_wf I, ⟨_, 0, rfl, by omega, rfl, rfl, hvb, Int.le_refl _, fun a ha => by simp at ha⟩, ?_⟩
  intro low p q hI
  obtain ⟨j, e1, hj, hk, e2, hl1, hl2, hl3⟩ := mu_spec hI
  generalize hkk : mu I ((low, p, ()), q) = km at *
  change p = (j : Int) at e1
  change q = h at e2
  subst e1
  subst e2
  change ht v + 1 ≤ low at hl1
  change low ≤ 2 * n at hl2
  change ∀ a ∈ (arcsL fr to m v).take j, 0 < room a → low ≤ ht (hdA fr to a) + 1 at hl3
  refine ifP_of (fun h1 => ?_) (fun h1 => ?_)
  · have hja : j < (arcsL fr to m v).length := by have := of_decide_eq_true h1; omega
    have ha := mem_arcsL.1 (List.getElem_mem hja)
    have htk : (arcsL fr to m v).take (j + 1) = (arcsL fr to m v).take j ++ [(arcsL fr to m v)[j]] := List.take_succ_eq_append_getElem hja
    generalize haa : (arcsL fr to m v)[j] = a at *
    have hw := hd_lt hn ha.1
    refine (qa v hv).rd (natV_get hja) ?_
    rw [haa]
    refine ptrP_mk ⟨_, k5.ld rfl, ptrP_mk ⟨_, q4.ld rfl, q2.rdI ha.1 ?_⟩⟩
    rw [i64_inc (by omega)]
    refine ifP_of (fun h2 => ?_) (fun h2 => ?_)
    · have h2 := of_decide_eq_true h2
      refine ptrP_mk (ptrP_mk ⟨_, k5.ld rfl, _, k5.ld rfl, ptrP_mk ⟨_, q4.ld rfl, q1.rdI ha.1 (k6.rdI hw ?_)⟩⟩)
      dsimp only
      have hbw := hb _ hw
      have ew : IntKind.i64.wrap (ht (hdA fr to a) + 1) = ht (hdA fr to a) + 1 := w64_in (by omega) (by omega)
      rw [ew]
      have := hva a ha.1 ha.2 h2
      have mm := min_if (ht (hdA fr to a) + 1) low
      generalize (if ht (hdA fr to a) + 1 < low then ht (hdA fr to a) + 1 else low) = lo2 at mm ⊢
      refine mu_next (I := I) (k := (arcsL fr to m v).length - (j + 1)) ⟨j + 1, rfl, hja, rfl, rfl, ?_, ?_, ?_⟩ (by rw [hkk, hk]; omega)
      · show ht v + 1 ≤ lo2
        omega
      · show lo2 ≤ _
        omega
      · intro b hb hrb
        show lo2 ≤ _
        rw [htk] at hb
        rcases List.mem_append.1 hb with hb | hb
        · have := hl3 b hb hrb
          omega
        · rw [List.mem_singleton] at hb
          subst hb
          omega
    · have h2 := of_decide_eq_false h2
      refine mu_next (I := I) (k := (arcsL fr to m v).length - (j + 1)) ⟨j + 1, rfl, hja, rfl, rfl, hl1, hl2, ?_⟩ (by rw [hkk, hk]; omega)
      intro b hb hrb
      rw [htk] at hb
      rcases List.mem_append.1 hb with hb | hb
      · exact hl3 b hb hrb
      · rw [List.mem_singleton] at hb
        subst hb
        exact absurd hrb h2
  · have hja : j = (arcsL fr to m v).length := by have := of_decide_eq_false h1; omega
    subst hja
    rw [List.take_length] at hl3
    obtain ⟨lo, rfl⟩ : ∃ lo : Nat, low = lo := ⟨low.toNat, by omega⟩
    have hl4 : ∀ a, a < 2 * m → tlA fr to a = v → 0 < room a → (lo : Int) ≤ ht (hdA fr to a) + 1 := fun a ha ht => hl3 a (mem_arcsL.2 ⟨ha, ht⟩)
    clear q4 q1 q2 q3 qa hI hkk hk h1 hj
    refine (set_T P n1 hv hold (y := lo) (by omega) (by omega)).mono ?_
    rintro _ g1 ⟨rfl, F1, P1⟩
    refine rt_ret ⟨rfl, ?_⟩
    have k5 := k5.fm F1 (by simp <;> omega)
    have k10 := k10.fm F1 (by simp <;> omega)
    clear k6 k7 k8 k9 C N
    have hb1 : ∀ u, u < n → 0 ≤ upd ht v lo u ∧ upd ht v lo u ≤ 2 * n := by
      intro u hu
      unfold upd
      have := hb u hu
      split <;> omega
    refine ptrP_mk ⟨_, k5.ld rfl, k10.setI hv ?_⟩
    intro g2 F2 k10
    have k5' := k5.fm F2 (by simp <;> omega)
    have P2 : Ps own g2 bp bn n m fr to s t room (upd ht v lo) ex (upd nxt v 0) Q := by
      obtain ⟨vh', vc', vx', vq', vn', cnt', k5_, k6, k7, C, k8, k9, _⟩ := P1.ex_
      have := k5_.uniq k5
      injection this with _ this
      injection this with e1 this
      injection this with e2 this
      injection this with e3 this
      injection this with e4 this
      injection this with e5 this
      subst e1 e2 e3 e4 e5
      exact ⟨P1.net.fm F2 (by simp), _, _, _, _, _, cnt', k5', k6.fm F2 (by simp <;> omega), k7.fm F2 (by simp <;> omega), C, k8.fm F2 (by simp <;> omega), k9.fm F2 (by simp <;> omega), k10⟩
    have k5 := k5'
    clear k5' k10 P1
    have F : Fm [6, 7, 10] own q own g2 := (F1.mono (by simp)).trans (F2.mono (by simp))
    obtain ⟨vh', vc', vx', vq', vn', cnt', k5_, k6, k7, C, k8, k9, k10⟩ := P2.ex_
    have := k5_.uniq k5
    injection this with _ this
    injection this with e1 this
    injection this with e2 this
    injection this with e3 this
    injection this with e4 this
    injection this with e5 this
    subst e1 e2 e3 e4 e5
    clear k5_
    obtain ⟨vto, vroom, vout, outs, q4, q1, q2, q3, qa⟩ := P2.net.ex
    refine ptrP_mk ⟨_, k5.ld rfl, ptrP_mk ⟨_, q4.ld rfl, q3.len (va_length _ _) fun _ _ => ?_⟩⟩
    refine ptrP_mk ⟨_, k5.ld rfl, ?_⟩
    rw [hold]
    refine k7.rdI (by omega) ?_
    have c1 := C old (by omega)
    have done : T = T → ∃ ht' nxt', Ps own g2 bp bn n m fr to s t room ht' ex nxt' Q ∧ LiftR n m fr to s room ht nxt v ht' nxt' :=
      fun _ => ⟨_, _, P2, lo, hl1, by omega, hl4, .inl ⟨rfl, rfl⟩⟩
    refine ifP_of (fun h1 => ?_) (fun h1 => ⟨rfl, F, done rfl⟩)
    have h1 := of_decide_eq_true h1
    refine ifP_of (fun h2 => ?_) (fun h2 => ⟨rfl, F, done rfl⟩)
    have h2 := of_decide_eq_true h2
    have hno := cntH_none (n := n) (ht := upd ht v lo) (k := old) (by omega)
    clear done c1
    refine ptrP_mk ⟨_, k5.ld rfl, k6.len (ints_length _ _) fun _ _ => ?_⟩
    clear q4 q1 q2 q3 qa k6 k7 k8 k9 k10 C
    let I66 : (Int × Unit) → H → Nat → Prop := fun p g k => ∃ j : Nat, p.1 = j ∧ j ≤ n ∧ k = n - j ∧ Fm [6, 7, 10] own q own g ∧ B1 own g 5 bp [.pointer (some (bk bn)), vh', vc', vx', vq', vn'] ∧
      Ps own g bp bn n m fr to s t room (gapH old n s j (upd ht v lo)) ex (gapN old n s j (upd ht v lo) (upd nxt v 0)) Q
    refine ⟨fun p q => ∃ k, I66 p q k, rk I66, rk_wf I66, ⟨_, 0, rfl, by omega, rfl, F, k5, by rw [gapH_0, gapN_0]; exact P2⟩, ?_⟩
    clear P2 k5 F F1 F2
    intro p g hI
    obtain ⟨j, e1, hj, hk, F, k5, P2⟩ := mu_spec hI
    generalize hkk : mu I66 ((p, ()), g) = km at *
    change p = (j : Int) at e1
    subst e1
    obtain ⟨vh', vc', vx', vq', vn', cnt', k5_, z6, z7, zC, z8, z9, z10⟩ := P2.ex_
    have := k5_.uniq k5
    injection this with _ this
    injection this with e1 this
    injection this with e2 this
    injection this with e3 this
    injection this with e4 this
    injection this with e5 this
    subst e1 e2 e3 e4 e5
    clear k5_
    refine ifP_of (fun h3 => ?_) (fun h3 => ?_)
    · have hjn : j < n := by have := of_decide_eq_true h3; omega
      have hlt : n - (j + 1) < mu I66 (((j : Int), ()), g) := by rw [hkk, hk]; omega
      clear hI
      have skip : ¬ ((old : Int) < upd ht v lo j ∧ upd ht v lo j ≤ n ∧ j ≠ s) → (∃ k, I66 (IntKind.i64.wrap ((j : Int) + 1), ()) g k) ∧ rk I66 ((IntKind.i64.wrap ((j : Int) + 1), ()), g) (((j : Int), ()), g) := by
        intro hne
        rw [i64_inc (by omega)]
        exact mu_next (I := I66) (k := n - (j + 1)) ⟨j + 1, rfl, hjn, rfl, F, k5, by rw [gapH_no hne, gapN_no hne]; exact P2⟩ hlt
      refine z6.rdI hjn ?_
      rw [gapH_at]
      refine ifP_of (fun h4 => ?_) (fun h4 => skip fun h => of_decide_eq_false h4 h.1)
      have h4 := of_decide_eq_true h4
      refine ifP_of (fun h5 => ?_) (fun h5 => skip fun h => of_decide_eq_false h5 h.2.1)
      have h5 := of_decide_eq_true h5
      obtain ⟨vto, vroom, vout, outs, q4, q1, q2, q3, qa⟩ := P2.net.ex
      refine ptrP_mk ⟨_, k5.ld rfl, ptrP_mk ⟨_, q4.ld rfl, ?_⟩⟩
      refine ifP_of (fun h6 => ?_) (fun h6 => skip fun h => by simp at h6; omega)
      have h6 : j ≠ s := by simp at h6; omega
      have yes : (old : Int) < upd ht v lo j ∧ upd ht v lo j ≤ n ∧ j ≠ s := ⟨h4, h5, h6⟩
      obtain ⟨hj0, hj1⟩ := hb1 j hjn
      obtain ⟨x, hx⟩ : ∃ x : Nat, upd ht v lo j = x := ⟨(upd ht v lo j).toNat, by omega⟩
      rw [i64_inc (by omega)]
      refine (set_T P2 n1 hjn (x := x) (by rw [gapH_at]; exact hx) (y := n + 1) (by omega) (by omega)).mono ?_
      rintro _ g3 ⟨rfl, F3, P3⟩
      refine rt_ret ⟨rfl, ?_⟩
      have k5 := k5.fm F3 (by simp <;> omega)
      have z10 := z10.fm F3 (by simp <;> omega)
      refine ptrP_mk ⟨_, k5.ld rfl, z10.setI hjn ?_⟩
      intro g4 F4 z10
      have k5' := k5.fm F4 (by simp <;> omega)
      rw [i64_inc (by omega)]
      refine mu_next (I := I66) (k := n - (j + 1)) ⟨j + 1, rfl, hjn, rfl, (F.trans (F3.mono (by simp))).trans (F4.mono (by simp)), k5', ?_⟩ hlt
      rw [gapH_yes yes, gapN_yes yes]
      obtain ⟨vh', vc', vx', vq', vn', cnt', k5_, k6, k7, C, k8, k9, _⟩ := P3.ex_
      have := k5_.uniq k5
      injection this with _ this
      injection this with e1 this
      injection this with e2 this
      injection this with e3 this
      injection this with e4 this
      injection this with e5 this
      subst e1 e2 e3 e4 e5
      exact ⟨P3.net.fm F4 (by simp), _, _, _, _, _, cnt', k5', k6.fm F4 (by simp <;> omega), k7.fm F4 (by simp <;> omega), C, k8.fm F4 (by simp <;> omega), k9.fm F4 (by simp <;> omega), z10⟩
    · have hjn : j = n := by have := of_decide_eq_false h3; omega
      subst hjn
      exact ⟨rfl, F, _, _, P2, lo, hl1, by omega, hl4, .inr ⟨by rw [hold]; exact hno, by omega, by rw [hold], by rw [hold]⟩⟩
end

end Go.Proofs.YtdcamadeblojdaaGreat

namespace Go.Proofs.YtdcamadeblojdaaGreat
open Go
open Classical
set_option linter.unusedVariables false
set_option linter.unusedSimpArgs false

structure PvI (n m : Nat) (fr to : Nat → Nat) (cap : Nat → Int) (s t : Nat) (K : Int) (room ht ex nxt : Nat → Int) (Q : List Nat) (cur : Option Nat) : Prop where
  rm : RmP m cap room
  hs : ht s = n
  htt : ht t = 0
  hb : ∀ u, u < n → 0 ≤ ht u ∧ ht u ≤ 2 * n
  val : ∀ a, a < 2 * m → 0 < room a → ht (tlA fr to a) ≤ ht (hdA fr to a) + 1
  ex0 : ∀ u, u < n → u ≠ s → ex u = - OutF m fr to (onR room) u ∧ 0 ≤ ex u
  exs : ex s = K - OutF m fr to (onR room) s
  cov : ∀ u, u < n → u ≠ s → u ≠ t → 0 < ex u → u ∈ Q ∨ cur = some u
  mem : ∀ u, u ∈ Q → u < n ∧ u ≠ s ∧ u ≠ t
  nb : ∀ u, u < n → 0 ≤ nxt u ∧ nxt u ≤ (arcsL fr to m u).length
  ca : ∀ u, u < n → ∀ a ∈ (arcsL fr to m u).take (nxt u).toNat, ¬ (0 < room a ∧ ht u = ht (hdA fr to a) + 1)
def Phi1 (n : Nat) (ht : Nat → Int) : Int := sumN n fun u => 2 * n - ht u
def Phi2 (n s : Nat) (ex ht : Nat → Int) : Int := sumN n fun u => if u = s then 0 else ex u * ht u
def Phi3 (n m : Nat) (fr to : Nat → Nat) (nxt : Nat → Int) : Int := sumN n fun u => (arcsL fr to m u).length - nxt u

section
variable {n m s t : Nat} {fr to : Nat → Nat} {cap room ht ex nxt : Nat → Int} {Q : List Nat} {cur : Option Nat} {K : Int}

/-- No side that holds what is too much is closed. -/
theorem exc_closed (R : RmP m cap room) (hn : ∀ i, i < m → fr i < n ∧ to i < n) {C : Nat → Prop} (hc : ∀ a, a < 2 * m → 0 < room a → C (tlA fr to a) → C (hdA fr to a))
    (hex : ∀ u, u < n → C u → OutF m fr to (onR room) u ≤ 0) {v : Nat} (hv : v < n) (cv : C v) (hev : OutF m fr to (onR room) v < 0) : False := by
  have e := out_side (f := onR room) hn C
  have h1 : 0 ≤ sumN m fun i => (if C (fr i) then onR room i else 0) - (if C (to i) then onR room i else 0) := by
    refine sumN_nonneg fun i hi => ?_
    have p1 := R.pos (2 * i + 1) (by omega)
    have c1 := hc (2 * i + 1) (by omega)
    unfold tlA hdA at c1
    rw [if_neg (by omega), if_neg (by omega), show (2 * i + 1) / 2 = i by omega] at c1
    unfold onR
    by_cases h1 : C (fr i) <;> by_cases h2 : C (to i) <;> simp [h1, h2] <;> try omega
    by_cases h3 : 0 < room (2 * i + 1)
    · exact absurd (c1 h3 h2) h1
    · omega
  have h2 : sumN n (fun u => if C u then OutF m fr to (onR room) u else 0) ≤ OutF m fr to (onR room) v := by
    have := sumN_mem (f := fun u => -(if C u then OutF m fr to (onR room) u else 0)) (k := n) (i := v) (fun u hu => by
      by_cases h : C u
      · rw [if_pos h]; have := hex u hu h; omega
      · rw [if_neg h]; omega) hv
    have e2 : sumN n (fun u => -(if C u then OutF m fr to (onR room) u else 0)) = - sumN n (fun u => if C u then OutF m fr to (onR room) u else 0) := by
      have := sumN_mul (c := -1) (f := fun u => if C u then OutF m fr to (onR room) u else 0) (k := n)
      simp only [Int.neg_mul, Int.one_mul] at this
      exact this
    rw [e2, if_pos cv] at this
    omega
  omega

theorem PvI.low (P : PvI n m fr to cap s t K room ht ex nxt Q cur) (hn : ∀ i, i < m → fr i < n ∧ to i < n) (hs : s < n) {v : Nat} (hv : v < n) (hvs : v ≠ s) (hev : 0 < ex v) : ht v + 1 ≤ 2 * n := by
  apply Classical.byContradiction
  intro hno
  have hbv := P.hb v hv
  obtain ⟨k, hk, hg⟩ := gap_ex (n := n) (ht := ht) n
  have h1 := hg s hs
  have h2 := hg v hv
  rw [P.hs] at h1
  have e1 := P.ex0 v hv hvs
  refine exc_closed P.rm hn (C := fun u => (n : Int) + k < ht u) (fun a ha hr hc => ?_) (fun u hu hc => ?_) hv (by show (n : Int) + k < ht v; omega) (by omega)
  · have := P.val a ha hr
    have := hg _ (hd_lt hn ha)
    show (n : Int) + k < ht (hdA fr to a)
    have : (n : Int) + k < ht (tlA fr to a) := hc
    omega
  · have hc : (n : Int) + k < ht u := hc
    have := P.ex0 u hu (by rintro rfl; rw [P.hs] at hc; omega)
    omega

/-- The sink cannot be reached when all is done. -/
theorem PvI.fin (P : PvI n m fr to cap s t K room ht ex nxt [] none) (hn : ∀ i, i < m → fr i < n ∧ to i < n) (hs : s < n) (ht' : t < n) : FlS n m fr to cap s t room ∧ ¬ Rch (ArS m fr to room) s t := by
  refine ⟨⟨P.rm, fun v hv h1 h2 => ?_⟩, fun r => ?_⟩
  · have e := P.ex0 v hv h1
    by_cases hp : 0 < ex v
    · rcases P.cov v hv h1 h2 hp with h | h
      · cases h
      · cases h
    · omega
  · obtain ⟨k, hk, hg⟩ := gap_ex (n := n) (ht := ht) 0
    have h1 := hg s hs
    have h2 := hg t ht'
    rw [P.hs] at h1
    rw [P.htt] at h2
    have : 0 + (k : Int) < ht t := r.closed (C := fun u => 0 + (k : Int) < ht u) (by rw [P.hs]; omega) (by
      rintro u w hu ⟨a, ha, rfl, rfl, hr⟩
      have := P.val a ha hr
      have := hg _ (hd_lt hn ha)
      show 0 + (k : Int) < ht (hdA fr to a)
      omega)
    rw [P.htt] at this
    omega

theorem room_up {a b : Nat} {x : Int} (hx : 0 ≤ x) (h : 0 < sndR room a x b) : 0 < room b ∨ b = prA a := by
  by_cases e : b = prA a
  · exact .inr e
  · refine .inl ?_
    by_cases e1 : b = a
    · subst e1; rw [sndR_a] at h; omega
    · rw [sndR_o e1 e] at h; exact h

theorem Phi2_give {v w : Nat} {x : Int} (hv : v < n) (hw : w < n) (ne : v ≠ w) (hvs : v ≠ s) (hh : ht v = ht w + 1) (hws : 0 ≤ ht w) (hx : 0 ≤ x) : Phi2 n s (giveX ex v w x) ht ≤ Phi2 n s ex ht - x := by
  have P : 0 ≤ x * ht w := Int.mul_nonneg hx hws
  have ev : giveX ex v w x v = ex v - x := by
    unfold giveX upd
    rw [if_neg ne, if_pos rfl]
  have ew : giveX ex v w x w = ex w + x := by
    unfold giveX upd
    rw [if_pos rfl, if_neg (fun h => ne h.symm)]
  have eo : ∀ u, u ≠ v → u ≠ w → giveX ex v w x u = ex u := by
    intro u h1 h2
    unfold giveX upd
    rw [if_neg h2, if_neg h1]
  obtain ⟨g, hg⟩ : ∃ g : Nat → Int, g = fun u => if u = s then 0 else ex u * ht u := ⟨_, rfl⟩
  have gu : ∀ u, g u = if u = s then 0 else ex u * ht u := fun u => by rw [hg]
  have e : (fun u => if u = s then 0 else giveX ex v w x u * ht u) = upd (upd g v (g v - x * ht w - x)) w (g w + (if w = s then 0 else x * ht w)) := by
    funext u
    show (if u = s then 0 else giveX ex v w x u * ht u) = _
    by_cases e1 : u = w
    · subst e1
      have : upd (upd g v (g v - x * ht u - x)) u (g u + (if u = s then 0 else x * ht u)) u = g u + (if u = s then 0 else x * ht u) := if_pos rfl
      rw [this, gu, ew]
      split
      · rfl
      · rw [Int.add_mul]
    · by_cases e2 : u = v
      · subst e2
        have : upd (upd g u (g u - x * ht w - x)) w (g w + (if w = s then 0 else x * ht w)) u = g u - x * ht w - x := by
          unfold upd; rw [if_neg e1, if_pos rfl]
        rw [this, gu, if_neg hvs, if_neg hvs, ev, Int.sub_mul, hh, Int.mul_add, Int.mul_add]; omega
      · have : upd (upd g v (g v - x * ht w - x)) w (g w + (if w = s then 0 else x * ht w)) u = g u := by
          unfold upd; rw [if_neg e1, if_neg e2]
        rw [this, gu, eo u e2 e1]
  unfold Phi2
  rw [e, ← hg, sumN_upd hw, sumN_upd hv]
  have : upd g v (g v - x * ht w - x) w = g w := if_neg (fun h => ne h.symm)
  rw [this]
  split <;> omega

theorem PvI.give (P : PvI n m fr to cap s t K room ht ex nxt Q cur) (hn : ∀ i, i < m → fr i < n ∧ to i < n) {a v : Nat} (ha : a < 2 * m) (hv : tlA fr to a = v) (hc : cur = some v) (hvs : v ≠ s) (hvt : v ≠ t)
    (hadm : ht v = ht (hdA fr to a) + 1) {x : Int} (hx0 : 0 < x) (hx1 : x ≤ room a) (hx2 : x ≤ ex v) :
    PvI n m fr to cap s t K (sndR room a x) ht (giveX ex v (hdA fr to a) x) nxt (giveQ s t ex Q (hdA fr to a)) cur := by
  have hvn : v < n := hv ▸ tl_lt hn ha
  have hw := hd_lt hn ha
  have ep : hdA fr to (prA a) = v := by rw [hd_pr]; exact hv
  have et : tlA fr to (prA a) = hdA fr to a := tl_pr a
  have os := out_snd (fr := fr) (to := to) (room := room) (x := x) ha
  rw [hv] at os
  generalize hdA fr to a = w at *
  have ne : v ≠ w := by rintro rfl; omega
  have gx : ∀ u, giveX ex v w x u = ex u - (if v = u then x else 0) + (if w = u then x else 0) := by
    intro u
    unfold giveX upd
    by_cases e1 : u = w
    · subst e1
      rw [if_pos rfl, if_neg (fun h => ne h.symm), if_neg ne, if_pos rfl]; omega
    · rw [if_neg e1, if_neg (c := w = u) (fun h => e1 h.symm)]
      by_cases e2 : u = v
      · subst e2; rw [if_pos rfl, if_pos rfl]; omega
      · rw [if_neg e2, if_neg (fun h => e2 h.symm)]; omega
  refine ⟨P.rm.snd ha (by omega) hx1, P.hs, P.htt, P.hb, ?_, ?_, ?_, ?_, ?_, P.nb, ?_⟩
  · intro b hb hr
    rcases room_up (by omega) hr with h | rfl
    · exact P.val b hb h
    · rw [ep, et]; omega
  · intro u hu hus
    have := P.ex0 u hu hus
    rw [os, gx]
    constructor
    · omega
    · by_cases e1 : v = u
      · subst e1; rw [if_pos rfl]; split <;> omega
      · rw [if_neg e1]; split <;> omega
  · rw [os, gx, P.exs]; omega
  · intro u hu h1 h2 h3
    rw [gx] at h3
    by_cases e1 : w = u
    · subst e1
      refine .inl ?_
      unfold giveQ
      by_cases e2 : ex w = 0
      · rw [if_pos ⟨e2, h1, h2⟩]; simp
      · rw [if_neg (fun h => e2 h.1)]
        have := P.ex0 w hu h1
        rcases P.cov w hu h1 h2 (by omega) with h | h
        · exact h
        · rw [hc] at h; simp only [Option.some.injEq] at h; exact absurd h ne
    · rw [if_neg e1] at h3
      by_cases e2 : v = u
      · subst e2; exact .inr hc
      · rw [if_neg e2] at h3
        rcases P.cov u hu h1 h2 (by omega) with h | h
        · refine .inl ?_
          unfold giveQ
          split
          · exact List.mem_append_left _ h
          · exact h
        · exact .inr h
  · intro u hu
    unfold giveQ at hu
    split at hu
    · rename_i h
      rcases List.mem_append.1 hu with h2 | h2
      · exact P.mem u h2
      · rw [List.mem_singleton] at h2
        subst h2
        exact ⟨hw, h.2.1, h.2.2⟩
    · exact P.mem u hu
  · rintro u hu b hb ⟨h1, h2⟩
    rcases room_up (by omega) h1 with h | rfl
    · exact P.ca u hu b hb ⟨h, h2⟩
    · rw [ep] at h2
      have := (mem_arcsL.1 (List.mem_of_mem_take hb)).2
      rw [et] at this
      subst this
      omega

theorem PvI.lift (P : PvI n m fr to cap s t K room ht ex nxt Q cur) (hn : ∀ i, i < m → fr i < n ∧ to i < n) {v : Nat} (hv : v < n) (hvs : v ≠ s) (hvt : v ≠ t) (hs : s < n) {ht' nxt' : Nat → Int}
    (L : LiftR n m fr to s room ht nxt v ht' nxt') : PvI n m fr to cap s t K room ht' ex nxt' Q cur ∧ Phi1 n ht' < Phi1 n ht := by
  obtain ⟨low, l1, l2, l3, L⟩ := L
  have hbv := P.hb v hv
  have u1 : upd ht v (low : Int) v = low := if_pos rfl
  have u2 : ∀ u, u ≠ v → upd ht v (low : Int) u = ht u := fun u h => if_neg h
  have up : ∀ u, ht u ≤ upd ht v (low : Int) u := by
    intro u
    by_cases e : u = v
    · subst e; rw [u1]; omega
    · rw [u2 u e]; omega
  have P1 : PvI n m fr to cap s t K room (upd ht v (low : Int)) ex (upd nxt v 0) Q cur := by
    refine ⟨P.rm, by rw [u2 _ (fun h => hvs h.symm)]; exact P.hs, by rw [u2 _ (fun h => hvt h.symm)]; exact P.htt, ?_, ?_, P.ex0, P.exs, P.cov, P.mem, ?_, ?_⟩
    · intro u hu
      have := P.hb u hu
      by_cases e : u = v
      · subst e; rw [u1]; omega
      · rw [u2 u e]; exact this
    · intro a ha hr
      have := up (hdA fr to a)
      by_cases e : tlA fr to a = v
      · rw [e, u1]
        have := l3 a ha e hr
        omega
      · rw [u2 _ e]
        have := P.val a ha hr
        omega
    · intro u hu
      have := P.nb u hu
      unfold upd; split <;> omega
    · rintro u hu a ha ⟨h1, h2⟩
      by_cases e : u = v
      · subst e
        have : upd nxt u 0 u = 0 := if_pos rfl
        rw [this] at ha
        simp at ha
      · have e2 : upd nxt v 0 u = nxt u := if_neg e
        rw [e2] at ha
        have := P.ca u hu a ha
        have ham := mem_arcsL.1 (List.mem_of_mem_take ha)
        have := P.val a ham.1 h1
        rw [ham.2] at this
        rw [u2 u e] at h2
        have := up (hdA fr to a)
        exact P.ca u hu a ha ⟨h1, by omega⟩
  have F1 : Phi1 n (upd ht v (low : Int)) < Phi1 n ht := by
    unfold Phi1
    have e : (fun u => 2 * (n : Int) - upd ht v (low : Int) u) = upd (fun u => 2 * (n : Int) - ht u) v (2 * n - low) := by
      funext u
      unfold upd
      by_cases e : u = v
      · rw [if_pos e, if_pos e]
      · rw [if_neg e, if_neg e]
    rw [e, sumN_upd hv]; omega
  rcases L with ⟨rfl, rfl⟩ | ⟨hno, hlt, rfl, rfl⟩
  · exact ⟨P1, F1⟩
  · generalize upd ht v (low : Int) = h1 at *
    generalize upd nxt v 0 = n1 at *
    have gl : ∀ u, u < n → (ht v < h1 u ∧ h1 u ≤ n ∧ u ≠ s ∧ gapH (ht v) n s n h1 u = n + 1 ∧ gapN (ht v) n s n h1 n1 u = 0) ∨
        (¬ (ht v < h1 u ∧ h1 u ≤ n ∧ u ≠ s) ∧ gapH (ht v) n s n h1 u = h1 u ∧ gapN (ht v) n s n h1 n1 u = n1 u) := by
      intro u hu
      unfold gapH gapN
      by_cases e : ht v < h1 u ∧ h1 u ≤ n ∧ u ≠ s
      · rw [if_pos ⟨hu, e⟩, if_pos ⟨hu, e⟩]; exact .inl ⟨e.1, e.2.1, e.2.2, by omega, rfl⟩
      · rw [if_neg (fun h => e h.2), if_neg (fun h => e h.2)]; exact .inr ⟨e, rfl, rfl⟩
    have gup : ∀ u, u < n → h1 u ≤ gapH (ht v) n s n h1 u := by
      intro u hu
      rcases gl u hu with ⟨a, b, c, d, e⟩ | ⟨a, b, c⟩ <;> omega
    refine ⟨⟨P1.rm, ?_, ?_, ?_, ?_, P1.ex0, P1.exs, P1.cov, P1.mem, ?_, ?_⟩, ?_⟩
    · rcases gl s hs with ⟨a, b, c, d, e⟩ | ⟨a, b, c⟩
      · exact absurd rfl c
      · rw [b]; exact P1.hs
    · unfold gapH
      rw [if_neg]
      · exact P1.htt
      · rw [P1.htt]; omega
    · intro u hu
      have := P1.hb u hu
      rcases gl u hu with ⟨a, b, c, d, e⟩ | ⟨a, b, c⟩ <;> omega
    · intro a ha hr
      have t1 := tl_lt hn ha
      have t2 := hd_lt hn ha
      have := P1.val a ha hr
      have g2 := gup _ t2
      rcases gl _ t1 with ⟨a1, b1, c1, d1, e1⟩ | ⟨a1, b1, c1⟩
      · rw [d1]
        have := hno _ t2
        by_cases e2 : hdA fr to a = s
        · have := P1.hs
          rw [← e2] at this
          omega
        · rcases gl _ t2 with ⟨a2, b2, c2, d2, e3⟩ | ⟨a2, b2, c2⟩
          · omega
          · have : ¬ h1 (hdA fr to a) ≤ n := fun h => a2 ⟨by omega, h, e2⟩
            omega
      · omega
    · intro u hu
      have := P1.nb u hu
      rcases gl u hu with ⟨a, b, c, d, e⟩ | ⟨a, b, c⟩ <;> omega
    · rintro u hu a ha ⟨h2, h3⟩
      rcases gl u hu with ⟨a1, b1, c1, d1, e1⟩ | ⟨a1, b1, c1⟩
      · rw [e1] at ha; simp at ha
      · rw [c1] at ha
        rw [b1] at h3
        have ham := mem_arcsL.1 (List.mem_of_mem_take ha)
        have := P1.val a ham.1 h2
        rw [ham.2] at this
        have := gup _ (hd_lt hn ham.1)
        exact P1.ca u hu a ha ⟨h2, by omega⟩
    · refine Int.lt_of_le_of_lt ?_ F1
      exact sumN_le fun u hu => by have := gup u hu; omega

theorem PvI.skip (P : PvI n m fr to cap s t K room ht ex nxt Q cur) {v l : Nat} (hv : v < n) (hl : nxt v = l) (hla : l < (arcsL fr to m v).length)
    (hno : ¬ (0 < room (arcsL fr to m v)[l] ∧ ht v = ht (hdA fr to (arcsL fr to m v)[l]) + 1)) : PvI n m fr to cap s t K room ht ex (upd nxt v ((l + 1 : Nat) : Int)) Q cur := by
  refine ⟨P.rm, P.hs, P.htt, P.hb, P.val, P.ex0, P.exs, P.cov, P.mem, ?_, ?_⟩
  · intro u hu
    have := P.nb u hu
    unfold upd
    by_cases e : u = v
    · subst e; rw [if_pos rfl]; omega
    · rw [if_neg e]; exact this
  · intro u hu a ha
    by_cases e : u = v
    · subst e
      have e2 : upd nxt u ((l + 1 : Nat) : Int) u = ((l + 1 : Nat) : Int) := if_pos rfl
      rw [e2, Int.toNat_natCast, List.take_succ_eq_append_getElem hla] at ha
      rcases List.mem_append.1 ha with h | h
      · exact P.ca u hu a (by rw [hl, Int.toNat_natCast]; exact h)
      · rw [List.mem_singleton] at h
        rw [h]; exact hno
    · have e2 : upd nxt v ((l + 1 : Nat) : Int) u = nxt u := if_neg e
      rw [e2] at ha
      exact P.ca u hu a ha
end

end Go.Proofs.YtdcamadeblojdaaGreat

