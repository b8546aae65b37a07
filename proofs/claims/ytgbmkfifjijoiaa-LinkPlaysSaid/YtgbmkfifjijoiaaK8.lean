import Derived.Test.YtgbmkfifjijoiaaK7
/-! Turning a node to the top: the plain law. -/
namespace Go.Proofs.Ytgbmkfifjijoiaa
open Go
set_option linter.unusedVariables false

section
variable {n : Nat} {st : St} {L : Nat → List Nat} {par tv pd : Nat → Int}

theorem Inv.top_of_mem (I : Inv n st L par tv pd) {t x : Nat} (ht : t < n) (hx : x ∈ L t) (hT : Top st x) : x = t := by
  rcases I.anc t ht x hx with h | ⟨u, hu, _, hc, _⟩
  · exact h
  · exact absurd hc (hT u hu)
theorem not_top {st : St} {v : Nat} (h : ¬ Top st v) : ∃ u : Nat, st v 2 = u ∧ Ch st u v := by
  refine topS_false ?_
  cases e : topS st v with
  | false => rfl
  | true => exact absurd (topS_iff.1 e) h
theorem Inv.upn (I : Inv n st L par tv pd) {v u : Nat} (hv : v < n) (hu : st v 2 = u) : u < n := by
  rcases I.up v hv with h | ⟨y, hy, hyn⟩
  · omega
  · have : u = y := by omega
    subst this; exact hyn

/-- v stands in the way of which t is the top; nothing is still to be added above v. -/
structure Sp (n : Nat) (st : St) (L : Nat → List Nat) (par tv pd : Nat → Int) (v t : Nat) : Prop where
  inv : Inv n st L par tv pd
  vn : v < n
  tn : t < n
  top : Top st t
  mem : v ∈ L t
  cl : ∀ w, w < n → v ∈ L w → st w 5 = 0 ∧ pd w = 0

structure SpR (n : Nat) (st st' : St) (L L' : Nat → List Nat) (par tv pd : Nat → Int) (v t t' x y : Nat) : Prop where
  sp : Sp n st' L' par tv pd v t'
  lt : L' t' = L t
  e2 : st' t' 2 = st t 2
  fr : ∀ w, w < n → Top st w → v ∉ L w → Top st' w ∧ st' w 2 = st w 2 ∧ L' w = L w
  lx : L' x = L y
  lo : ∀ w, w ≠ x → w ≠ y → L' w = L w
  tt : t' = x ∨ t' = t
  tt2 : ¬ Top st y → t' = t

theorem Sp.rot {v t : Nat} (S : Sp n st L par tv pd v t) (F : Fst n par tv) {x : Nat} (hx : x < n) (hvx : v ∈ L x) (hxt : ¬ Top st x) :
    ∃ y L' t', y < n ∧ st x 2 = y ∧ Ch st y x ∧ x ≠ y ∧ RotR n st (rotateS st x y) L L' par tv pd x y ∧ SpR n st (rotateS st x y) L L' par tv pd v t t' x y := by
  have I := S.inv
  obtain ⟨y, hy, hc⟩ := not_top hxt
  have hyn := I.upn hx hy
  have hvy : v ∈ L y := I.sub hyn hc hvx
  have hs : ∃ s o, Side st y x s o := by
    rcases hc with h | h
    · exact ⟨0, 1, .inl ⟨rfl, rfl⟩, h⟩
    · exact ⟨1, 0, .inr ⟨rfl, rfl⟩, h⟩
  obtain ⟨s, o, hs⟩ := hs
  have R := I.rotate F hx hyn hs (S.cl x hx hvx).1 (S.cl y hyn hvy).1 (S.cl x hx hvx).2 (S.cl y hyn hvy).2
  generalize rotLs st L x y s = L' at R
  generalize hst : rotateS st x y = st' at R
  have ne : x ≠ y := I.chNe hyn hc
  have memx : v ∈ L' x := by rw [R.lv]; exact hvy
  have tcase : ∃ t', Top st' t' ∧ L' t' = L t ∧ st' t' 2 = st t 2 ∧ t' < n ∧ (t' = x ∨ t' = t) ∧ (¬ Top st y → t' = t) := by
    by_cases hty : Top st y
    · have e : y = t := by
        rcases I.cmp S.tn y hyn v hvy S.mem with h | h
        · exact I.top_of_mem S.tn h hty
        · exact (I.top_of_mem hyn h S.top).symm
      exact ⟨x, R.tops hty, by rw [R.lv, e], by rw [R.e2, e], hx, .inl rfl, fun h => absurd hty h⟩
    · have t1 : t ≠ x := by rintro rfl; exact hxt S.top
      have t2 : t ≠ y := by rintro rfl; exact hty S.top
      exact ⟨t, (R.fr t S.tn t1 t2 S.top).1, R.lo t t1 t2, (R.fr t S.tn t1 t2 S.top).2, S.tn, .inr rfl, fun _ => rfl⟩
  obtain ⟨t', h1, h2, h3, h4, h5, h6⟩ := tcase
  refine ⟨y, L', t', hyn, hy, hc, ne, by rw [hst]; exact R, ?_⟩
  rw [hst]
  refine ⟨⟨R.inv, S.vn, h4, h1, by rw [h2]; exact S.mem, ?_⟩, h2, h3, ?_, R.lv, R.lo, h5, h6⟩
  · intro w hw hvw
    rw [R.e5 w hw]
    by_cases w1 : w = x
    · subst w1; exact S.cl w hw hvx
    · by_cases w2 : w = y
      · subst w2; exact S.cl w hw hvy
      · rw [R.lo w w1 w2] at hvw; exact S.cl w hw hvw
  · intro w hw hT hvw
    have w1 : w ≠ x := by rintro rfl; exact hvw hvx
    have w2 : w ≠ y := by rintro rfl; exact hvw hvy
    exact ⟨(R.fr w hw w1 w2 hT).1, (R.fr w hw w1 w2 hT).2, R.lo w w1 w2⟩

/-- What turning v to the top comes to: W is the way, U what stands above its top. -/
structure SplayR (n : Nat) (st st' : St) (L L' : Nat → List Nat) (par tv pd' : Nat → Int) (v : Nat) : Prop where
  inv : Inv n st' L' par tv pd'
  top : Top st' v
  way : ∃ t, t < n ∧ Top st t ∧ v ∈ L t ∧ L' v = L t ∧ st' v 2 = st t 2
  a0 : st' v 5 = 0
  p0 : pd' v = 0
  fr : ∀ w, w < n → Top st w → v ∉ L w → Top st' w ∧ st' w 2 = st w 2 ∧ L' w = L w

end

/-! ### The same heap, seen as one with an array -/

def At (h : H) (bn e n : Nat) (st : St) : Prop := h bn = some (.cells ⟨recs n 6 st⟩ e (0, 0))
theorem fp_self {h : H} {bn e n : Nat} {st : St} (ha : At h bn e n st) : fp h bn e n 6 st = h := by
  funext b
  by_cases hb : b = bn
  · subst hb; rw [fp_at]; exact ha.symm
  · rw [fp_ne hb]
theorem at_fp {h : H} {bn e n : Nat} {st : St} : At (fp h bn e n 6 st) bn e n st := fp_at ..

structure Fz (h : H) (bf bn e n : Nat) (st : St) : Prop where
  hd : Hd h bf bn n
  at_ : At h bn e n st
theorem Fz.next {h : H} {bf bn e n : Nat} {st st' : St} (f : Fz h bf bn e n st) : Fz (fp h bn e n 6 st') bf bn e n st' := ⟨f.hd.fp, at_fp⟩

/-- All blocks but b that h knows, h' knows as they were. -/
def Kp (b : Nat) (h h' : H) : Prop := ∀ k o, k ≠ b → h k = some o → h' k = some o
theorem Kp.refl {b : Nat} {h : H} : Kp b h h := fun _ _ _ h => h
theorem Kp.trans {b : Nat} {h1 h2 h3 : H} (a : Kp b h1 h2) (c : Kp b h2 h3) : Kp b h1 h3 := fun k o hk h => c k o hk (a k o hk h)
theorem Kp.fp {bn e n k : Nat} {st : St} {h : H} : Kp bn h (fp h bn e n k st) := fun b o hb h => by rw [fp_ne hb]; exact h
theorem Kp.put {bn b : Nat} {h : H} {o : Obj} (hb : h b = none) : Kp bn h (hput h b o) := fun k ok hk h2 => by
  unfold hput
  split
  · rename_i e; subst e; rw [hb] at h2; cases h2
  · exact h2
theorem Hd.kp {h h' : H} {bf bn n : Nat} (hd : Hd h bf bn n) (k : Kp bn h h') : Hd h' bf bn n := by
  obtain ⟨ne, ef, h⟩ := hd
  exact ⟨ne, ef, k _ _ ne h⟩

section
variable {bf bn n e : Nat} {h : H} {st : St}
theorem push_A (f : Fz h bf bn e n st) {v : Nat} (hv : v < n) (hl : Pt n (st v 0)) (hr : Pt n (st v 1)) :
    T Try.prog F.links_Forest_push [fo bf, vi v] h fun r h' => r = .ret unit0 ∧ h' = fp h bn e n 6 (pushS st v) := by
  have := push_T (e := e) f.hd hv hl hr
  rwa [fp_self f.at_] at this
theorem top_A (f : Fz h bf bn e n st) {v : Nat} (hv : v < n) (hu : Pt n (st v 2)) :
    T Try.prog F.links_Forest_top [fo bf, vi v] h fun r h' => r = .ret (.bool (topS st v)) ∧ h = h' := by
  have := top_T (e := e) f.hd hv hu
  rw [fp_self f.at_] at this
  exact this.mono fun _ _ h => ⟨h.1, h.2.symm⟩
theorem pull_A (f : Fz h bf bn e n st) {v : Nat} (hv : v < n) (hl : Pc n v (st v 0)) (hr : Pc n v (st v 1)) :
    T Try.prog F.links_Forest_pull [fo bf, vi v] h fun r h' => r = .ret unit0 ∧ h' = fp h bn e n 6 (pullS st v) := by
  have := pull_T (e := e) f.hd hv hl hr
  rwa [fp_self f.at_] at this
theorem raise_A (f : Fz h bf bn e n st) {c : Int} (hc : Pt n c) (x : Int) :
    T Try.prog F.links_Forest_raise [fo bf, .int .i64 c, .int .i64 x] h fun r h' => r = .ret unit0 ∧ h' = fp h bn e n 6 (raiseS st c x) := by
  have := raise_T (e := e) (st := st) f.hd hc x
  rwa [fp_self f.at_] at this
theorem Fz.ld (f : Fz h bf bn e n st) {v j : Nat} (hv : v < n) (hj : j < 6) : hcell h (((bk bn).add (v * 6)).add j) = some (.int .i64 (st v j)) := by
  have := fp_ld (h0 := h) (b := bn) (e := e) (st := st) hv hj
  rwa [fp_self f.at_] at this
theorem Fz.wr (f : Fz h bf bn e n st) {v j : Nat} (hv : v < n) (hj : j < 6) : hwr h (((bk bn).add (v * 6)).add j) 1 := by
  have := fp_wr (h0 := h) (b := bn) (e := e) (st := st) hv hj
  rwa [fp_self f.at_] at this
theorem Fz.set (f : Fz h bf bn e n st) {v j : Nat} {x : Int} (hv : v < n) (hj : j < 6) :
    hset h (((bk bn).add (v * 6)).add j) [.int .i64 x] = fp h bn e n 6 (upd2 st v j x) := by
  have := fp_set (h0 := h) (b := bn) (e := e) (st := st) (x := x) hv hj
  rwa [fp_self f.at_] at this

theorem Sp.rot_A {L : Nat → List Nat} {par tv pd : Nat → Int} {v t : Nat} (f : Fz h bf bn e n st) (S : Sp n st L par tv pd v t) (Fo : Fst n par tv) {x : Nat} (hx : x < n) (hvx : v ∈ L x) (hxt : ¬ Top st x)
    {R : Res → H → Prop} (k : ∀ y L' t', y < n → st x 2 = y → Ch st y x → x ≠ y → SpR n st (rotateS st x y) L L' par tv pd v t t' x y → R (.ret unit0) (fp h bn e n 6 (rotateS st x y))) :
    T Try.prog F.links_Forest_rotate [fo bf, vi x] h R := by
  obtain ⟨y, L', t', hyn, hy, hc, ne, rr, sr⟩ := S.rot Fo hx hvx hxt
  have := rotate_T (e := e) f.hd hx hyn ne hy (S.inv.up y hyn) rr.hi rr.p1 rr.p2 rr.p3 rr.p4
  rw [fp_self f.at_] at this
  refine this.mono ?_
  rintro _ _ ⟨rfl, rfl⟩
  exact k y L' t' hyn hy hc ne sr
end

/-! ### Slices that grow -/

/-- The slice p holds vs; its block is b. -/
structure Sl (h : H) (b : Nat) (p : Value) (vs : List Value) : Prop where
  ex : ∃ c e zs, p = .slice (some (bk b)) vs.length c ∧ h b = some (.cells ⟨vs ++ zs⟩ e (0, 0)) ∧ vs.length + zs.length = c

theorem Sl.kp {h h' : H} {b b' : Nat} {p : Value} {vs : List Value} (s : Sl h b p vs) (k : Kp b' h h') (ne : b ≠ b') : Sl h' b p vs := by
  obtain ⟨c, e, zs, h1, h2, h3⟩ := s.ex
  exact ⟨c, e, zs, h1, k _ _ ne h2, h3⟩
theorem Sl.get {h : H} {b : Nat} {p : Value} {vs : List Value} (s : Sl h b p vs) {i : Nat} {v : Value} (hi : vs[i]? = some v) : hcell h ((bk b).add (i * 1)) = some v := by
  obtain ⟨c, e, zs, h1, h2, h3⟩ := s.ex
  rw [bk_add, hcell_at h2, Nat.mul_one, List.getElem?_toArray]
  have : i < vs.length := (List.getElem?_eq_some_iff.1 hi).1
  rw [List.getElem?_append_left this]
  exact hi

theorem Sl.app1 {h : H} {b bx ex : Nat} {p x z : Value} {vs : List Value} {K : Value → H → Prop} {e bytes : Nat} (s : Sl h b p vs)
    (hx : h bx = some (.cells ⟨[x]⟩ ex (0, 0))) (one : x.oneCell' = true) (hb : bytes ≤ 8) (hl : vs.length < 1000000)
    (k : ∀ b' p' h', Sl h' b' p' (vs ++ [x]) → Kp b h h' → (b' = b ∨ h b' = none) → K p' h') :
    apP p (.slice (some (bk bx)) 1 1) h 1 e bytes [z] K := by
  obtain ⟨c, eb, zs, rfl, h2, h3⟩ := s.ex
  refine ⟨[x], ⟨rfl, ?_⟩, ?_⟩
  · intro i v hi
    rw [bk_add, hcell_at hx, List.getElem?_toArray]
    exact hi
  · refine ⟨fun hle => ?_, fun hlt => ⟨?_, vs, ⟨by rw [Nat.mul_one], ?_⟩, fun cap hcap nb hnb => ?_⟩⟩
    · refine ⟨fun _ => ?_, ?_, ?_⟩
      · rw [bk_add]
        refine ⟨_, _, h2, rfl, ?_⟩
        simp only [List.size_toArray, List.length_append, List.length_singleton]
        omega
      · intro v hv
        rw [List.mem_singleton.1 hv]; exact one
      · refine k b _ _ ⟨c, eb, zs.drop 1, by simp, ?_, ?_⟩ ?_ (.inl rfl)
        · rw [bk_add]
          unfold hset
          rw [if_pos rfl, h2]
          simp only [Option.map_some, setR, Nat.mul_one]
          rw [List.setIfInBounds_toArray]
          congr 3
          cases zs with
          | nil => simp at h3; omega
          | cons z0 zs => simp
        · simp; omega
        · intro j o hj hj2
          rw [bk_add]
          unfold hset
          rw [if_neg hj]
          exact hj2
    · have := nextcap_le hlt
      calc _ ≤ (2 * (vs.length + 1) + 192) * bytes := Nat.mul_le_mul_right _ this
        _ ≤ (2 * (vs.length + 1) + 192) * 8 := Nat.mul_le_mul_left _ hb
        _ ≤ _ := by omega
    · intro i v hi
      have := s.get hi
      rwa [Nat.mul_one] at this
    · refine k nb _ _ ⟨cap, e, zrep [z] (cap - (vs.length + 1)), by simp, ?_, ?_⟩ ?_ (.inr hnb)
      · simp [hput]
      · have : ∀ m, (zrep [z] m).length = m := by
          intro m
          simp [zrep]
        rw [this]; simp; omega
      · intro j o hj hj2
        exact Kp.put (bn := b) hnb j o hj hj2

end Go.Proofs.Ytgbmkfifjijoiaa
