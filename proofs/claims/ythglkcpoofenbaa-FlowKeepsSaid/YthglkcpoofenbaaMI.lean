import Derived.Test.YthglkcpoofenbaaMH
/-! Greatest flows turned about, doubled, with other capacities: the plain law. -/
namespace Go.Proofs.Ythglkcpoofenbaa
open Go
open Classical
set_option linter.unusedVariables false
set_option linter.unusedSimpArgs false

section
variable {n m : Nat} {fr to : Nat → Nat} {cap f g : Nat → Int} {s t : Nat}
theorem OutF_rev (v : Nat) : OutF m to fr f v = - OutF m fr to f v := by
  have := sumN_mul (c := -1) (f := fun i => (if fr i = v then f i else 0) - (if to i = v then f i else 0)) (k := m)
  unfold OutF
  rw [show -(sumN m fun i => (if fr i = v then f i else 0) - (if to i = v then f i else 0)) = -1 * sumN m (fun i => (if fr i = v then f i else 0) - (if to i = v then f i else 0)) by omega, ← this]
  exact sumN_congr fun i _ => by omega
theorem FlowP.sink (F : FlowP n m fr to cap s t f) (hn : ∀ i, i < m → fr i < n ∧ to i < n) (hs : s < n) (ht : t < n) (hst : s ≠ t) : OutF m fr to f t = - OutF m fr to f s := by
  have tot := out_all (f := f) hn
  have : sumN n (fun v => OutF m fr to f v) = OutF m fr to f s + OutF m fr to f t := by
    have e : sumN n (fun v => OutF m fr to f v) = sumN n fun v => (if s = v then OutF m fr to f s else 0) + (if t = v then OutF m fr to f t else 0) := sumN_congr fun v hv => by
      by_cases e1 : s = v
      · subst e1; rw [if_pos rfl, if_neg (fun h => hst h.symm)]; omega
      · by_cases e2 : t = v
        · subst e2; rw [if_neg hst, if_pos rfl]; omega
        · rw [if_neg e1, if_neg e2, F.cons v hv (fun h => e1 h.symm) (fun h => e2 h.symm)]; rfl
    rw [e, sumN_add, sumN_pt, sumN_pt, if_pos hs, if_pos ht]
  omega
theorem RsS_rev {u v : Nat} : RsS m to fr cap f u v ↔ RsS m fr to cap f v u := by
  constructor
  · rintro ⟨i, hi, ⟨h1, h2, h3⟩ | ⟨h1, h2, h3⟩⟩
    · exact ⟨i, hi, .inl ⟨h2, h1, h3⟩⟩
    · exact ⟨i, hi, .inr ⟨h2, h1, h3⟩⟩
  · rintro ⟨i, hi, ⟨h1, h2, h3⟩ | ⟨h1, h2, h3⟩⟩
    · exact ⟨i, hi, .inl ⟨h2, h1, h3⟩⟩
    · exact ⟨i, hi, .inr ⟨h2, h1, h3⟩⟩
theorem Rch_rev {u v : Nat} : Rch (RsS m to fr cap f) u v ↔ Rch (RsS m fr to cap f) v u := by
  constructor
  · intro r; exact r.rev.mono fun _ _ h => RsS_rev.1 h
  · intro r; exact r.rev.mono fun _ _ h => RsS_rev.2 h
theorem MaxP.rev (F : MaxP n m fr to cap s t f) : MaxP n m to fr cap t s f :=
  ⟨⟨F.fl.cp, fun v hv h1 h2 => by rw [OutF_rev, F.fl.cons v hv h2 h1]; rfl⟩, fun r => F.nr (Rch_rev.1 r)⟩
/-- Turned about as much goes. -/
theorem MaxP.rev_val (F : MaxP n m fr to cap s t f) (G : MaxP n m to fr cap t s g) (hn : ∀ i, i < m → fr i < n ∧ to i < n) (hs : s < n) (ht : t < n) (hst : s ≠ t) :
    OutF m to fr g t = OutF m fr to f s ∧ ∀ v, Rch (RsS m to fr cap g) t v ↔ Rch (RsS m fr to cap f) v t := by
  obtain ⟨u1, u2⟩ := G.uniq F.rev (fun i hi => ⟨(hn i hi).2, (hn i hi).1⟩) ht
  refine ⟨?_, fun v => (u2 v).trans Rch_rev⟩
  rw [u1, OutF_rev, F.fl.sink hn hs ht hst]; omega
/-- Twice the capacities, twice the flow. -/
theorem MaxP.dbl (F : MaxP n m fr to cap s t f) : MaxP n m fr to (fun i => 2 * cap i) s t (fun i => 2 * f i) := by
  have e : ∀ v, OutF m fr to (fun i => 2 * f i) v = 2 * OutF m fr to f v := by
    intro v
    unfold OutF
    rw [← sumN_mul]
    exact sumN_congr fun i _ => by dsimp only; split <;> split <;> omega
  have r : ∀ u v, RsS m fr to (fun i => 2 * cap i) (fun i => 2 * f i) u v → RsS m fr to cap f u v := by
    rintro u v ⟨i, hi, ⟨h1, h2, h3⟩ | ⟨h1, h2, h3⟩⟩
    · exact ⟨i, hi, .inl ⟨h1, h2, by dsimp only at h3; omega⟩⟩
    · exact ⟨i, hi, .inr ⟨h1, h2, by dsimp only at h3; omega⟩⟩
  refine ⟨⟨fun i hi => ?_, fun v hv h1 h2 => by rw [e, F.fl.cons v hv h1 h2]; rfl⟩, fun k => F.nr (k.mono r)⟩
  have := F.fl.cp i hi
  omega
theorem dbl_val (v : Nat) : OutF m fr to (fun i => 2 * f i) v = 2 * OutF m fr to f v := by
  unfold OutF
  rw [← sumN_mul]
  exact sumN_congr fun i _ => by dsimp only; split <;> split <;> omega
theorem MaxP.nonneg (F : MaxP n m fr to cap s t f) (hn : ∀ i, i < m → fr i < n ∧ to i < n) (hs : s < n) : 0 ≤ OutF m fr to f s := by
  rw [F.cut hn hs]
  refine sumN_nonneg fun i hi => ?_
  have := F.fl.cp i hi
  split <;> omega

/-! ### Another capacity on one edge -/

theorem cut_upd {C : Nat → Prop} {k : Nat} {x : Int} (hk : k < m) : cutC m fr to (upd cap k x) C = cutC m fr to cap C + (if C (fr k) ∧ ¬ C (to k) then x - cap k else 0) := by
  unfold cutC
  have e : (fun i => if C (fr i) ∧ ¬ C (to i) then upd cap k x i else 0) = upd (fun i => if C (fr i) ∧ ¬ C (to i) then cap i else 0) k (if C (fr k) ∧ ¬ C (to k) then x else 0) := by
    funext i
    by_cases e : i = k
    · subst e; rw [upd_at, upd_at]
    · rw [upd_ne e, upd_ne e]
  rw [e, sumN_upd hk]
  split <;> omega
theorem MaxP.less {fl : Nat → Int} {k : Nat} (F : MaxP n m fr to cap s t f) (L : MaxP n m fr to (upd cap k 0) s t fl) (hn : ∀ i, i < m → fr i < n ∧ to i < n) (hs : s < n) (hk : k < m) (hc : 0 ≤ cap k) :
    OutF m fr to fl s ≤ OutF m fr to f s ∧ OutF m fr to f s - OutF m fr to fl s ≤ cap k := by
  have c1 := F.cut hn hs
  have c2 := L.cut hn hs
  have l1 := L.fl.le_cut hn hs (C := Rch (RsS m fr to cap f) s) .refl F.nr
  have l2 := F.fl.le_cut hn hs (C := Rch (RsS m fr to (upd cap k 0) fl) s) .refl L.nr
  rw [cut_upd hk] at l1 c2
  constructor
  · split at l1 <;> omega
  · split at c2 <;> omega
theorem MaxP.more {fm : Nat → Int} {k : Nat} (F : MaxP n m fr to cap s t f) (M : MaxP n m fr to (upd cap k (cap k + 1)) s t fm) (hn : ∀ i, i < m → fr i < n ∧ to i < n) (hs : s < n) (hk : k < m) :
    (OutF m fr to fm s = OutF m fr to f s + 1 ∧ Rch (RsS m fr to cap f) s (fr k) ∧ Rch (RsS m fr to cap f) (to k) t) ∨
    (OutF m fr to fm s = OutF m fr to f s ∧ ¬ (Rch (RsS m fr to cap f) s (fr k) ∧ Rch (RsS m fr to cap f) (to k) t)) := by
  have c1 := F.cut hn hs
  have c2 := M.cut hn hs
  have l1 := M.fl.le_cut hn hs (C := Rch (RsS m fr to cap f) s) .refl F.nr
  have l2 := F.fl.le_cut hn hs (C := Rch (RsS m fr to (upd cap k (cap k + 1)) fm) s) .refl M.nr
  rw [cut_upd hk] at l1 c2
  by_cases hg : Rch (RsS m fr to cap f) s (fr k) ∧ Rch (RsS m fr to cap f) (to k) t
  · refine .inl ⟨?_, hg⟩
    have le1 : OutF m fr to fm s ≤ OutF m fr to f s + 1 := by split at l1 <;> omega
    apply Classical.byContradiction
    intro hne
    have hle : cutC m fr to cap (Rch (RsS m fr to (upd cap k (cap k + 1)) fm) s) ≤ OutF m fr to f s := by split at c2 <;> omega
    have h1 := MaxP.sub F.fl hn hs (C := Rch (RsS m fr to (upd cap k (cap k + 1)) fm) s) .refl M.nr hle hg.1
    have h2 : ¬ Rch (RsS m fr to (upd cap k (cap k + 1)) fm) s (to k) := by
      intro h2
      refine M.nr (hg.2.closed (C := Rch (RsS m fr to (upd cap k (cap k + 1)) fm) s) h2 ?_)
      rintro u w hu ⟨i, hi, ⟨rfl, rfl, k3⟩ | ⟨rfl, rfl, k3⟩⟩
      · apply Classical.byContradiction
        intro hw
        have := (F.fl.tight hn hs .refl M.nr hle i hi).1 hu hw
        omega
      · apply Classical.byContradiction
        intro hw
        have := (F.fl.tight hn hs .refl M.nr hle i hi).2 hw hu
        omega
    rw [if_pos ⟨h1, h2⟩] at c2
    omega
  · refine .inr ⟨?_, hg⟩
    have ge : OutF m fr to f s ≤ OutF m fr to fm s := by split at c2 <;> omega
    by_cases h1 : Rch (RsS m fr to cap f) s (fr k)
    · have h2 : ¬ Rch (RsS m fr to cap f) (to k) t := fun h => hg ⟨h1, h⟩
      have e := F.fl.tight' hn hs (C := fun u => ¬ Rch (RsS m fr to cap f) u t) F.nr (fun h => h .refl) (fun u w hu r h => hu (h.head r))
      have l := M.fl.le_cut hn hs (C := fun u => ¬ Rch (RsS m fr to cap f) u t) F.nr (fun h => h .refl)
      rw [cut_upd hk, if_neg (fun h => h.2 h2)] at l
      omega
    · rw [if_neg (fun h => h1 h.1)] at l1
      omega
end

/-! ### What a call is refused for -/

theorem Gd.iff {n : Nat} {m : Nat} {es : Nat → Ed} : (faultG n m es).1 = 0 ↔ Gd n m es := by
  constructor
  · intro h
    obtain ⟨n', e, g⟩ := Gd.of h
    have : n' = n := by omega
    subst this; exact g
  · intro g; rw [g.no]
theorem wrong13_0 {n s t k : Int} {m : Nat} {es : Nat → Ed} : wrong13 n m es s t k = 0 ↔ (faultG n m es).1 = 0 ∧ (0 ≤ s ∧ s < n) ∧ (0 ≤ t ∧ t < n) ∧ s ≠ t ∧ 1 ≤ k ∧ k ≤ 3 := by
  unfold wrong13 endsC wrongC
  by_cases h0 : (faultG n m es).1 = 0
  · simp only [if_pos h0]
    by_cases h1 : 0 ≤ s ∧ s < n
    · simp only [if_pos h1]
      by_cases h2 : 0 ≤ t ∧ t < n
      · simp only [if_pos h2]
        by_cases h3 : s = t
        · simp [h3]
        · by_cases h4 : 1 ≤ k ∧ k ≤ 3
          · simp [h3, h4, h0, h1, h2]
          · simp [h3, h4]
      · simp [h2]
    · simp [h1]
  · simp [h0]
theorem Gd.rev {n m : Nat} {es : Nat → Ed} (g : Gd n m es) : Gd n m (revE es) := ⟨g.n1, g.m1, g.t, g.f, g.c, g.k⟩
theorem Gd.rev_iff {n m : Nat} {es : Nat → Ed} : Gd n m (revE es) ↔ Gd n m es := ⟨fun g => ⟨g.n1, g.m1, g.t, g.f, g.c, g.k⟩, Gd.rev⟩
theorem wrong13_rev {n s t k : Int} {m : Nat} {es : Nat → Ed} : wrong13 n m (revE es) t s k = 0 ↔ wrong13 n m es s t k = 0 := by
  have e : (faultG n m (revE es)).1 = 0 ↔ (faultG n m es).1 = 0 := by
    constructor
    · intro h
      obtain ⟨n', rfl, g⟩ := Gd.of h
      exact Gd.iff.2 (Gd.rev_iff.1 g)
    · intro h
      obtain ⟨n', rfl, g⟩ := Gd.of h
      exact Gd.iff.2 g.rev
  rw [wrong13_0, wrong13_0, e]
  constructor
  · rintro ⟨a, b, c, d, e⟩; exact ⟨a, c, b, fun h => d h.symm, e⟩
  · rintro ⟨a, b, c, d, e⟩; exact ⟨a, c, b, fun h => d h.symm, e⟩

end Go.Proofs.Ythglkcpoofenbaa

/-! FlowTurns, FlowGrows. -/
namespace Go.Proofs.Ythglkcpoofenbaa
open Go
set_option linter.unusedVariables false
set_option linter.unusedSimpArgs false

/-- All capacities doubled. -/
def dblE (es : Nat → Ed) (i : Nat) : Ed := ⟨(es i).f, (es i).t, 2 * (es i).c, (es i).k⟩
/-- An error stays one behind Solve. -/
theorem SolA.err {h h' : H} {n s t k : Int} {m : Nat} {es : Nat → Ed} {r : Res} (A : SolA h n m es s t k r h') (hw : wrong13 n m es s t k ≠ 0) :
    r = .ret (.tuple ⟨[.agg ⟨flZ⟩, .int .i64 0, .int .i64 (wrong13 n m es s t k)]⟩) ∧ Ext h h' := by
  rcases A with ⟨x, ⟨_, e⟩ | ⟨h, _⟩⟩
  · exact ⟨e, x⟩
  · exact absurd h hw
theorem SolA.ok {h h' : H} {n s t m : Nat} {k : Int} {es : Nat → Ed} {r : Res} (A : SolA h n m es s t k r h') (hw : wrong13 n m es s t k = 0) :
    ∃ b1 b2 f sd, r = .ret (.tuple ⟨[.agg ⟨flV s t (slV b1 m) (slV b2 n)⟩, .int .i64 (OutF m (frE es) (toE es) f s), .int .i64 0]⟩) ∧ SolR h h' n m es s t b1 b2 f sd ∧ Ext h h' := by
  rcases A with ⟨x, ⟨h, _⟩ | ⟨_, n', s', t', b1, b2, f, sd, e1, e2, e3, _, _, _, _, rfl, S⟩⟩
  · exact absurd hw h
  · have : n' = n := by omega
    subst this
    have : s' = s := by omega
    subst this
    have : t' = t := by omega
    subst this
    exact ⟨b1, b2, f, sd, rfl, S, x⟩
theorem val_bd {n m s t : Nat} {es : Nat → Ed} {f : Nat → Int} (g : Gd n m es) (F : MaxP n m (frE es) (toE es) (cpE es) s t f) (hs : s < n) :
    0 ≤ OutF m (frE es) (toE es) f s ∧ OutF m (frE es) (toE es) f s ≤ 4294967296 := by
  refine ⟨F.nonneg g.ends hs, (out_bd (fun i hi => ?_) g.m1 s).2⟩
  have := F.fl.cp i hi
  have := g.c i hi
  unfold cpE at *; omega

section
variable {h : H} {w : List Value}
theorem FlowTurns_T {n : Int} {m : Nat} {es : Nat → Ed} (G : GrA h w n m es) (hm : m ≤ 4398046511104) (s t k : Int) :
    T Try.prog F.compasslaw13_FlowTurns [.agg ⟨w⟩, .agg ⟨[.int .i64 s, .int .i64 t]⟩, .int .i64 k] h fun r h' => r = .ret (.bool true) ∧ Ext h h' := by
  refine E_compasslaw13_FlowTurns ?_
  unfold B_compasslaw13_FlowTurns
  refine new_bl ?_
  intro b1 q2 hb1 x1 B1_
  refine new_bl ?_
  intro b3 q4 hb3 x3 B3
  refine awake_T.mono ?_
  rintro _ q6 ⟨rfl, x6⟩
  refine rt_ret ⟨_, rfl, ifP_of (fun h => by cases h) (fun _ => ?_)⟩
  have xh := (x1.trans' x3).trans' x6
  have B1_ := (B1_.ext x3).ext x6
  have B3 := B3.ext x6
  have G := G.ext xh
  refine B1_.ldN G.one.1 (end0 B3 (end1 B3 ?_))
  refine (Solve_T G s t k).mono ?_
  intro r14 q14 hA
  have hA0 := hA
  obtain ⟨x14, hA⟩ := hA
  have B1_ := B1_.ext x14
  have B3 := B3.ext x14
  have G := G.ext x14
  have xh := xh.trans' x14
  -- what is common
  have step : ∀ (fl : List Value) (v e : Int), fl.length = 4 → (∀ x ∈ fl, x.oneCell' = true) → r14 = .ret (.tuple ⟨[.agg ⟨fl⟩, .int .i64 v, .int .i64 e]⟩) → True := fun _ _ _ _ _ _ => trivial
  clear step
  rcases hA with ⟨hw, rfl⟩ | ⟨hw, n', s', t', c1, c2, f, sd, rfl, rfl, rfl, hs, ht, hst, g, rfl, S⟩
  · refine rt_ret ⟨_, rfl, _, _, rfl, new_bl_st rfl rfl (by simp [Value.oneCell']) ?_⟩
    intro b18 q20 hb18 x18 B18
    have B1_ := B1_.ext x18
    have B3 := B3.ext x18
    have G := G.ext x18
    have xh := xh.trans' x18
    refine ⟨by omega, by omega, by omega, by omega, B1_.ldN G.one.1 ⟨_, B3.ld (i := 1) rfl, _, B3.ld (i := 0) rfl, ?_⟩⟩
    refine (Reverse_R G hm).mono ?_
    rintro _ q27 ⟨v, own, rfl, bs, k1⟩
    have B3' := B3.ext bs.ext
    refine rt_ret ⟨_, rfl, rfl, sameAt_bl B3 B3', sameAt_bl B3 B3', ?_⟩
    have xh := xh.trans' bs.ext
    refine (Solve_T (k1.gs.gr n) t s k).mono ?_
    intro r30 q30 hA2
    obtain ⟨rfl, x30⟩ := hA2.err (fun h => hw (wrong13_rev.1 h))
    refine rt_ret ⟨_, rfl, _, _, rfl, new_bl_st rfl rfl (by simp [Value.oneCell']) ?_⟩
    intro b34 q36 hb34 x34 B34
    have hw2 : wrong13 n m (revE es) t s k ≠ 0 := fun h => hw (wrong13_rev.1 h)
    have xh := (xh.trans' x30).trans' x34
    refine ifP_of (fun _ => ?_) (fun h => absurd (by simpa using h) hw)
    refine ifP_of (fun _ => ?_) (fun h => absurd (by simpa using h) hw)
    refine ifP_of (fun _ => ?_) (fun h => absurd (by simpa using h) hw2)
    exact ifP_of (fun _ => ⟨by simp, xh⟩) (fun h => by simp at h)
  · refine rt_ret ⟨_, rfl, _, _, rfl, new_bl_st rfl rfl (by simp [Value.oneCell']) ?_⟩
    intro b18 q20 hb18 x18 B18
    have B1_ := B1_.ext x18
    have B3 := B3.ext x18
    have G := G.ext x18
    have xh := xh.trans' x18
    refine ⟨by omega, by omega, by omega, by omega, B1_.ldN G.one.1 ⟨_, B3.ld (i := 1) rfl, _, B3.ld (i := 0) rfl, ?_⟩⟩
    refine (Reverse_R G hm).mono ?_
    rintro _ q27 ⟨v, own, rfl, bs, k1⟩
    have B3' := B3.ext bs.ext
    refine rt_ret ⟨_, rfl, rfl, sameAt_bl B3 B3', sameAt_bl B3 B3', ?_⟩
    have B3 := B3'
    have B1_ := B1_.ext bs.ext
    have G := G.ext bs.ext
    have xh := xh.trans' bs.ext
    refine (Solve_T (k1.gs.gr n') t' s' k).mono ?_
    intro r30 q30 hA2
    obtain ⟨d1, d2, f2, sd2, rfl, S2, x30⟩ := hA2.ok (wrong13_rev.2 hw)
    have ev := (S.mx.rev_val S2.mx g.ends hs ht hst).1
    have ev : OutF m (frE (revE es)) (toE (revE es)) f2 t' = OutF m (frE es) (toE es) f s' := ev
    have B3 := B3.ext x30
    have B1_ := B1_.ext x30
    have G := G.ext x30
    refine rt_ret ⟨_, rfl, _, _, rfl, new_bl_st rfl rfl (by simp [Value.oneCell']) ?_⟩
    intro b34 q36 hb34 x34 B34
    have xh := (xh.trans' x30).trans' x34
    have B3 := B3.ext x34
    have B1_ := B1_.ext x34
    have G := G.ext x34
    refine ifP_of (fun h => by simp at h) (fun _ => ?_)
    refine ifP_of (fun h => by simp at h) (fun _ => ?_)
    refine B1_.ldN G.one.1 ?_
    refine (Copy_R G hm).mono ?_
    rintro _ q39 ⟨v3, own3, rfl, bs3, k3⟩
    have B3 := B3.ext bs3.ext
    have xh := xh.trans' bs3.ext
    refine rt_ret ⟨_, rfl, rfl, new_bl_st rfl rfl (by intro v hv; simp only [List.mem_cons, List.mem_nil_iff, or_false] at hv; rcases hv with rfl | rfl; rfl; exact slc_one k3.isS) ?_⟩
    intro b41 q43 hb41 x41 B41
    have B3 := B3.ext x41
    have xh := xh.trans' x41
    have k3 := k3.nw (j := 2) x41 hb41
    have bsr := bs3.nw (j := 2) x41 hb41
    have k2 : B1 (own1 own3 b41 2) q43 2 b41 _ := B1.new B41
    generalize own1 own3 b41 2 = own4 at *
    refine ⟨_, k2.ld rfl, k3.gs.len fun _ _ => ?_⟩
    have B3q : Bl q36 b3 [.int .i64 s', .int .i64 t'] := by assumption
    let I : (Int × Unit) → H → Nat → Prop := fun p q z => ∃ (j : Nat) (es' : Nat → Ed), p.1 = j ∧ j ≤ m ∧ z = m - j ∧ Bs q36 own4 q ∧ B1 own4 q 2 b41 [.int .i64 n', v3] ∧ S4 own4 q 1 v3 m es' ∧
      (∀ l, l < m → es' l = if l < j then dblE es l else es l) ∧ ∀ l, l < j → (es l).c ≤ 524288
    refine ⟨fun p q => ∃ k, I p q k, rk I, rk_wf I, ⟨_, 0, es, rfl, by omega, rfl, bsr, k2, k3, fun l _ => (by rw [if_neg (by omega)]), fun l hl => by omega⟩, ?_⟩
    intro p q hI
    obtain ⟨j, es', e1, hj, hkz, bsq, k2, k3, hes, hsm⟩ := mu_spec hI
    generalize hkk : mu I ((p, ()), q) = km at *
    change p = (j : Int) at e1
    subst e1
    have hlt : j < m → m - (j + 1) < mu I (((j : Int), ()), q) := fun h => by rw [hkk, hkz]; omega
    clear hI
    have xh36 : Ext h q36 := by assumption
    refine ifP_of (fun h1 => ?_) (fun h1 => ?_)
    · have hjm : j < m := by have := of_decide_eq_true h1; omega
      have ej : es' j = es j := by rw [hes j hjm, if_neg (by omega)]
      have hcj := g.c j hjm
      refine ⟨_, k2.ld rfl, k3.gs.c hjm ?_⟩
      rw [ej]
      refine ifP_of (fun _ => ⟨by rw [ev]; simp, xh36.trans' bsq.ext⟩) (fun h2 => ?_)
      have h2 := of_decide_eq_false h2
      refine ⟨_, k2.ld rfl, k3.gs.c hjm ?_⟩
      rw [ej]
      have ew : IntKind.i64.wrap ((es j).c * 2) = 2 * (es j).c := by
        have : IntKind.i64.wrap ((es j).c * 2) = (es j).c * 2 := w64_in (by omega) (by omega)
        rw [this]; omega
      rw [ew, i64_inc (by have := g.m1; omega)]
      refine k3.setC hjm ?_
      intro q59 F k3
      have bsq := bsq.fm F (by simp <;> omega)
      have k2 := k2.fm F (by simp <;> omega)
      refine mu_next (I := I) (k := m - (j + 1)) ⟨j + 1, _, rfl, hjm, rfl, bsq, k2, k3, fun l hl => ?_, fun l hl => ?_⟩ (hlt hjm)
      rotate_left
      · by_cases e : l = j
        · subst e; omega
        · exact hsm l (by omega)
      unfold capE
      by_cases e : l = j
      · subst e
        rw [if_pos rfl, if_pos (by omega), ej]; rfl
      · rw [if_neg e, hes l hl]
        by_cases e2 : l < j
        · rw [if_pos e2, if_pos (by omega)]
        · rw [if_neg e2, if_neg (by omega)]
    · have : j = m := by have := of_decide_eq_false h1; omega
      subst this
      have hall : ∀ l, l < j → dblE es l = es' l := fun l hl => by rw [hes l hl, if_pos hl]
      have k3 := k3.congr hall
      refine k2.ldN rfl (end0 (B3q.ext bsq.ext) (end1 (B3q.ext bsq.ext) ?_))
      refine (Solve_T (k3.gs.gr n') s' t' k).mono ?_
      intro r66 q66 hA3
      have gd : Gd n' j (dblE es) := ⟨g.n1, g.m1, g.f, g.t, fun i hi => by
        have := g.c i hi
        have := hsm i hi
        show 0 ≤ 2 * (es i).c ∧ 2 * (es i).c ≤ 1048576
        omega, g.k⟩
      have hw0 := wrong13_0.1 hw
      obtain ⟨e1, e2, f3, sd3, rfl, S3, x66⟩ := hA3.ok (wrong13_0.2 ⟨Gd.iff.2 gd, hw0.2⟩)
      have hd := S3.mx.uniq S.mx.dbl g.ends hs
      have hd1 : OutF j (frE (dblE es)) (toE (dblE es)) f3 s' = 2 * OutF j (frE es) (toE es) f s' := by
        rw [← dbl_val]; exact hd.1
      have vb := val_bd g S.mx hs
      refine rt_ret ⟨_, rfl, _, _, rfl, new_bl_st rfl rfl (by simp [Value.oneCell']) ?_⟩
      intro b70 q72 hb70 x70 B70
      refine ifP_of (fun _ => ?_) (fun h => by rw [ev] at h; simp at h)
      refine ifP_of (fun _ => ?_) (fun h => by simp at h)
      have ew : IntKind.i64.wrap (2 * OutF j (frE es) (toE es) f s') = 2 * OutF j (frE es) (toE es) f s' := w64_in (by omega) (by omega)
      rw [ew, hd1]
      exact ⟨by simp, ((xh36.trans' bsq.ext).trans' x66).trans' x70⟩

theorem Own.join {h0 h1 h2 : H} {o1 o2 : Own} (B1_ : Bs h0 o1 h1) (B2_ : Bs h1 o2 h2) : ∃ o : Own, Bs h0 o h2 ∧ Fm [] o1 h1 o h2 ∧ ∀ b, o2 b ≠ 0 → o b = 10 + o2 b := by
  classical
  refine ⟨fun b => if (∃ x, h1 b = some x) then o1 b else 10 + o2 b, ⟨B1_.ext.trans' B2_.ext, fun b x e => ?_⟩, ⟨fun b x e _ => B2_.ext b x e, fun b x e => ⟨⟨x, B2_.ext b x e⟩, if_pos ⟨x, e⟩⟩⟩, fun b hb => if_neg ?_⟩
  · rw [if_pos ⟨x, B1_.ext b x e⟩]; exact B1_.old b x e
  · rintro ⟨x, e⟩; exact hb (B2_.old b x e)
theorem S4.rel {own own' : Own} {h : H} {i j m : Nat} {v : Value} {es : Nat → Ed} (s : S4 own h i v m es) (hr : ∀ b, own b = i → own' b = j) : S4 own' h j v m es := by
  rcases s with s | ⟨b, c, e, zs, hb, h1, h2, h3⟩
  · exact .inl s
  · exact .inr ⟨b, c, e, zs, hr b hb, h1, h2, h3⟩
theorem badFrom_at {n : Int} {es : Nat → Ed} {q : Nat} (hq : badE n (es q) ≠ 0) : ∀ {k i : Nat}, i ≤ q → q < i + k → (∀ j, i ≤ j → j < q → badE n (es j) = 0) → badFrom n es i k = (badE n (es q), (q : Int))
  | 0, i, h1, h2, _ => by omega
  | k + 1, i, h1, h2, h3 => by
    by_cases e : i = q
    · subst e; exact badFrom_bad hq
    · rw [badFrom_good (h3 i (Nat.le_refl _) (by omega))]
      exact badFrom_at hq (by omega) (by omega) fun j h4 h5 => h3 j (by omega) h5
theorem badE_gd {n m : Nat} {es : Nat → Ed} (g : Gd n m es) {j : Nat} (hj : j < m) : badE n (es j) = 0 := by
  obtain ⟨v, e, hv⟩ := g.f j hj
  obtain ⟨u, e2, hu⟩ := g.t j hj
  have := g.c j hj
  have := g.k j hj
  unfold badE
  rw [if_neg (by omega), if_neg (by omega)]
theorem capE_gd {n m : Nat} {es : Nat → Ed} (g : Gd n m es) {k : Nat} {x : Int} (hx : 0 ≤ x ∧ x ≤ 1048576) : Gd n m (capE es k x) := by
  refine ⟨g.n1, g.m1, fun i hi => ?_, fun i hi => ?_, fun i hi => ?_, fun i hi => ?_⟩
  · unfold capE; split
    · exact g.f i hi
    · exact g.f i hi
  · unfold capE; split
    · exact g.t i hi
    · exact g.t i hi
  · unfold capE; split
    · exact hx
    · exact g.c i hi
  · unfold capE; split
    · exact g.k i hi
    · exact g.k i hi
theorem capE_fr (es : Nat → Ed) (k : Nat) (x : Int) : frE (capE es k x) = frE es := by
  funext i; unfold frE capE; split <;> rfl
theorem capE_to (es : Nat → Ed) (k : Nat) (x : Int) : toE (capE es k x) = toE es := by
  funext i; unfold toE capE; split <;> rfl
theorem capE_cp (es : Nat → Ed) (k : Nat) (x : Int) : cpE (capE es k x) = upd (cpE es) k x := by
  funext i; unfold cpE capE upd; split <;> rfl

theorem FlowGrows_T {n : Int} {m : Nat} {es : Nat → Ed} (G : GrA h w n m es) (hm : m ≤ 4398046511104) (s t k : Int) :
    T Try.prog F.compasslaw13_FlowGrows [.agg ⟨w⟩, .agg ⟨[.int .i64 s, .int .i64 t]⟩, .int .i64 k] h fun r h' => r = .ret (.bool true) ∧ Ext h h' := by
  refine E_compasslaw13_FlowGrows ?_
  unfold B_compasslaw13_FlowGrows
  refine new_bl ?_
  intro b1 q2 hb1 x1 B1_
  refine new_bl ?_
  intro b3 q4 hb3 x3 B3
  refine awake_T.mono ?_
  rintro _ q6 ⟨rfl, x6⟩
  refine rt_ret ⟨_, rfl, ifP_of (fun h => by cases h) (fun _ => ?_)⟩
  have xh := (x1.trans' x3).trans' x6
  have B1_ := (B1_.ext x3).ext x6
  have B3 := B3.ext x6
  have G := G.ext xh
  refine B1_.ldN G.one.1 (end0 B3 (end1 B3 ?_))
  refine (Solve_T G s t 3).mono ?_
  rintro _ q14 ⟨x14, hA⟩
  have B1_ := B1_.ext x14
  have B3 := B3.ext x14
  have G := G.ext x14
  have xh := xh.trans' x14
  rcases hA with ⟨hw, rfl⟩ | ⟨hw, n', s', t', c1, c2, f, sd, rfl, rfl, rfl, hs, ht, hst, g, rfl, S⟩
  · refine rt_ret ⟨_, rfl, _, _, rfl, new_bl_st rfl rfl (by simp [Value.oneCell']) ?_⟩
    intro b18 q20 hb18 x18 B18
    refine ⟨fun _ _ => False, ?_, fun _ h => h.elim⟩
    refine ifP_of (fun _ => ifP_of (fun h => absurd (by simpa using h) hw) (fun _ => ⟨by simp, xh.trans' x18⟩)) (fun h => absurd (by simpa using h) hw)
  have g1 := g.m1
  have vb := val_bd g S.mx hs
  refine rt_ret ⟨_, rfl, _, _, rfl, new_bl_st rfl rfl (by simp [Value.oneCell']) ?_⟩
  intro b18 q20 hb18 x18 B18
  have B1_ := B1_.ext x18
  have B3 := B3.ext x18
  have G := G.ext x18
  have xh := xh.trans' x18
  obtain ⟨gv, rfl, Gv⟩ := G.gs
  refine ⟨fun _ q => q20 = q ∧ 0 ≤ k ∧ k < m, ?_, ?_⟩
  · refine ifP_of (fun h => by simp at h) (fun _ => ?_)
    refine ifP_of (fun _ => ifP_of (fun _ => ⟨rfl, xh⟩) (fun h => by simp at h)) (fun h1 => ?_)
    refine ⟨_, B1_.ld rfl, Gv.len fun _ _ => ?_⟩
    refine ifP_of (fun _ => ifP_of (fun _ => ⟨rfl, xh⟩) (fun h => by simp at h)) (fun h2 => ⟨rfl, ?_⟩)
    have := of_decide_eq_false h1
    have := of_decide_eq_false h2
    omega
  rintro _ ⟨rfl, hk0, hk1⟩
  obtain ⟨kk, rfl⟩ : ∃ kk : Nat, k = kk := ⟨k.toNat, by omega⟩
  have hkm : kk < m := by omega
  have hck := g.c kk hkm
  refine ⟨by omega, by omega, by omega, by omega, B1_.ldN rfl ⟨_, B3.ld (i := 1) rfl, _, B3.ld (i := 0) rfl, ?_⟩⟩
  refine (Reverse_R (Gv.gr n') hm).mono ?_
  rintro _ q27 ⟨v, own, rfl, bs, k1⟩
  have B3' := B3.ext bs.ext
  refine rt_ret ⟨_, rfl, rfl, sameAt_bl B3 B3', sameAt_bl B3 B3', ?_⟩
  have B3 := B3'
  have B1_ := B1_.ext bs.ext
  have B18 := B18.ext bs.ext
  have Gv := Gv.ext bs.ext
  have xh := xh.trans' bs.ext
  have Sd := (RS.of_sl S.s2).ext (x18.trans' bs.ext)
  have hw0 := wrong13_0.1 hw
  refine (Solve_T (k1.gs.gr n') t' s' 1).mono ?_
  intro r30 q30 hA2
  obtain ⟨d1, d2, f2, sd2, rfl, S2, x30⟩ := hA2.ok (wrong13_rev.2 (wrong13_0.2 ⟨hw0.1, hw0.2.1, hw0.2.2.1, hw0.2.2.2.1, by omega, by omega⟩))
  have ev := (S.mx.rev_val S2.mx g.ends hs ht hst).2
  refine rt_ret ⟨_, rfl, _, _, rfl, new_bl_st rfl rfl (by simp [Value.oneCell']) ?_⟩
  intro b40 q42 hb40 x40 B40
  have xx := x30.trans' x40
  have B3 := B3.ext xx
  have B1_ := B1_.ext xx
  have B18 := B18.ext xx
  have Gv := Gv.ext xx
  have xh := xh.trans' xx
  have Sd := Sd.ext xx
  have Sd2 := (RS.of_sl S2.s2).ext x40
  refine B1_.ldN rfl (B1_.ldN rfl ?_)
  refine (Copy_R (Gv.gr n') hm).mono ?_
  rintro _ q46 ⟨va, owna, rfl, bsa, ka⟩
  refine rt_ret ⟨_, rfl, rfl, ?_, ?_⟩
  · exact sameAt_bl (i := 0) B1_ (B1_.ext bsa.ext)
  refine (Copy_R ((Gv.ext bsa.ext).gr n') hm).mono ?_
  rintro _ q49 ⟨vb2, ownb, rfl, bsb, kb⟩
  obtain ⟨own, bsc, Fa, hrel⟩ := Own.join bsa bsb
  have ka := ka.fm Fa (by simp)
  have kb : S4 own q49 11 vb2 m es := kb.rel fun b hb => by rw [hrel b (by omega), hb]
  refine rt_ret ⟨_, rfl, rfl, new_bl ?_⟩
  intro b51 q52 hb51 x51 B51
  have bsc := bsc.nw (j := 2) x51 hb51
  have ka := ka.nw (j := 2) x51 hb51
  have kb := kb.nw (j := 2) x51 hb51
  have k2 : B1 (own1 own b51 2) q52 2 b51 _ := B1.new B51
  generalize own1 own b51 2 = own at *
  refine new_bl ?_
  intro b53 q54 hb53 x53 B53
  have bsc := bsc.nw (j := 3) x53 hb53
  have ka := ka.nw (j := 3) x53 hb53
  have kb := kb.nw (j := 3) x53 hb53
  have k2 := k2.nw (j := 3) x53 hb53
  have k3 : B1 (own1 own b53 3) q54 3 b53 _ := B1.new B53
  generalize own1 own b53 3 = own at *
  refine k2.stN rfl rfl (by intro v hv; simp only [List.mem_cons, List.mem_nil_iff, or_false] at hv; rcases hv with rfl | rfl; rfl; exact slc_one ka.isS) ?_
  intro q55 F1 k2
  have bsc := bsc.fm F1 (by simp <;> omega)
  have ka := ka.fm F1 (by simp <;> omega)
  have kb := kb.fm F1 (by simp <;> omega)
  have k3 := k3.fm F1 (by simp <;> omega)
  refine k3.stN rfl rfl (by intro v hv; simp only [List.mem_cons, List.mem_nil_iff, or_false] at hv; rcases hv with rfl | rfl; rfl; exact slc_one kb.isS) ?_
  intro q56 F2 k3
  have bsc := bsc.fm F2 (by simp <;> omega)
  have ka := ka.fm F2 (by simp <;> omega)
  have kb := kb.fm F2 (by simp <;> omega)
  have k2 := k2.fm F2 (by simp <;> omega)
  refine ⟨_, k2.ld rfl, ka.gs.c hkm ?_⟩
  have ew : IntKind.i64.wrap ((es kk).c + 1) = (es kk).c + 1 := w64_in (by omega) (by omega)
  rw [ew]
  refine ka.setC hkm ?_
  intro q61 F3 ka
  have bsc := bsc.fm F3 (by simp <;> omega)
  have kb := kb.fm F3 (by simp <;> omega)
  have k2 := k2.fm F3 (by simp <;> omega)
  have k3 := k3.fm F3 (by simp <;> omega)
  refine ⟨_, k3.ld rfl, kb.setC hkm ?_⟩
  intro q64 F4 kb
  have bsc := bsc.fm F4 (by simp <;> omega)
  have ka := ka.fm F4 (by simp <;> omega)
  have k2 := k2.fm F4 (by simp <;> omega)
  have k3 := k3.fm F4 (by simp <;> omega)
  have B3 := B3.ext bsc.ext
  have B1_ := B1_.ext bsc.ext
  have B18 := B18.ext bsc.ext
  have B40 := B40.ext bsc.ext
  have Gv := Gv.ext bsc.ext
  have xh := xh.trans' bsc.ext
  have Sd := Sd.ext bsc.ext
  have Sd2 := Sd2.ext bsc.ext
  refine k3.ldN rfl (end0 B3 (end1 B3 ?_))
  refine (Solve_T (kb.gs.gr n') s' t' 2).mono ?_
  intro r71 q71 hA3
  have gl : Gd n' m (capE es kk 0) := capE_gd g ⟨by omega, by omega⟩
  obtain ⟨e1, e2, fl, sdl, rfl, Sl_, x71⟩ := hA3.ok (wrong13_0.2 ⟨Gd.iff.2 gl, hw0.2.1, hw0.2.2.1, hw0.2.2.2.1, by omega, by omega⟩)
  have Ml := Sl_.mx
  rw [capE_fr, capE_to, capE_cp] at Ml
  have hless := S.mx.less Ml g.ends hs hkm hck.1
  have vbl := val_bd gl Sl_.mx hs
  rw [capE_fr, capE_to] at vbl ⊢
  refine rt_ret ⟨_, rfl, _, _, rfl, new_bl_st rfl rfl (by simp [Value.oneCell']) ?_⟩
  intro b75 q77 hb75 x75 B75
  have xx2 := x71.trans' x75
  have B3 := B3.ext xx2
  have B1_ := B1_.ext xx2
  have B18 := B18.ext xx2
  have B40 := B40.ext xx2
  have Gv := Gv.ext xx2
  have xh := xh.trans' xx2
  have Sd := Sd.ext xx2
  have Sd2 := Sd2.ext xx2
  have FX : Fm [] own q64 own q77 := Fm.of_ext xx2
  have ka := ka.fm FX (by simp <;> omega)
  have k2 := k2.fm FX (by simp <;> omega)
  refine ⟨fun _ q => q77 = q, ?_, ?_⟩
  · refine ifP_of (fun h => by simp at h) (fun _ => ?_)
    refine ifP_of (fun h => by simp at h) (fun _ => ?_)
    refine ifP_of (fun h => by have := of_decide_eq_true h; omega) (fun _ => ?_)
    refine ⟨_, B1_.ld rfl, Gv.c hkm ?_⟩
    have ew : IntKind.i64.wrap (OutF m (frE es) (toE es) f s' - OutF m (frE es) (toE es) fl s') = OutF m (frE es) (toE es) f s' - OutF m (frE es) (toE es) fl s' := w64_in (by omega) (by omega)
    rw [ew]
    refine ifP_of (fun h => ?_) (fun _ => rfl)
    have h := of_decide_eq_true h
    have h2 : OutF m (frE es) (toE es) f s' - OutF m (frE es) (toE es) fl s' ≤ (es kk).c := hless.2
    omega
  rintro _ rfl
  refine k2.ldN rfl (end0 B3 (end1 B3 ?_))
  refine (Solve_T (ka.gs.gr n') s' t' 2).mono ?_
  intro r88 q88 hA4
  by_cases hbig : (es kk).c = 1048576
  · -- too much for a label
    have hb : badE n' (capE es kk ((es kk).c + 1) kk) = 31 := by
      obtain ⟨v, e, hv⟩ := g.f kk hkm
      obtain ⟨u, e2, hu⟩ := g.t kk hkm
      unfold badE capE
      rw [if_pos rfl]
      dsimp only
      rw [if_neg (by omega), if_pos (by omega)]
    have hf : (faultG n' m (capE es kk ((es kk).c + 1))).1 = 31 := by
      unfold faultG
      have := g.n1
      rw [if_neg (by omega), badFrom_at (q := kk) (by omega) (by omega) (by omega) ?_, hb]
      intro j _ hj
      have : capE es kk ((es kk).c + 1) j = es j := if_neg (by omega)
      rw [this]
      exact badE_gd g (by omega)
    have hw31 : wrong13 n' m (capE es kk ((es kk).c + 1)) s' t' 2 = 31 := by
      unfold wrong13 endsC wrongC
      rw [hf]; rfl
    obtain ⟨rfl, x88⟩ := hA4.err (by omega)
    rw [hw31]
    refine rt_ret ⟨_, rfl, _, _, rfl, new_bl_st rfl rfl (by simp [Value.oneCell']) ?_⟩
    intro b93 q95 hb93 x93 B93
    refine ifP_of (fun _ => ?_) (fun h => by simp at h)
    refine ifP_of (fun _ => ?_) (fun h => by simp at h)
    refine ⟨_, ((B1_.ext x88).ext x93).ld rfl, ((Gv.ext x88).ext x93).c hkm ⟨by rw [hbig]; simp, (xh.trans' x88).trans' x93⟩⟩
  have gm : Gd n' m (capE es kk ((es kk).c + 1)) := capE_gd g ⟨by omega, by omega⟩
  obtain ⟨e1, e2, fm, sdm, rfl, Sm, x88⟩ := hA4.ok (wrong13_0.2 ⟨Gd.iff.2 gm, hw0.2.1, hw0.2.2.1, hw0.2.2.2.1, by omega, by omega⟩)
  have Mm := Sm.mx
  rw [capE_fr, capE_to, capE_cp] at Mm
  have hmore := S.mx.more (k := kk) Mm g.ends hs hkm
  rw [capE_fr, capE_to]
  refine rt_ret ⟨_, rfl, _, _, rfl, new_bl_st rfl rfl (by simp [Value.oneCell']) ?_⟩
  intro b93 q95 hb93 x93 B93
  have xx3 := x88.trans' x93
  have xh := xh.trans' xx3
  refine ifP_of (fun h => by simp at h) (fun _ => ?_)
  have ef := g.fr hkm
  have et := g.to hkm
  have r1 := S.sd _ ef.2
  have r2 : sd2 (toE es kk) = true ↔ Rch (RsS m (frE es) (toE es) (cpE es) f) (toE es kk) t' := (S2.sd _ et.2).trans (ev _)
  refine ⟨fun p q => p.1 = (sd (frE es kk) && sd2 (toE es kk)) ∧ q95 = q, ?_, ?_⟩
  · refine ⟨_, (B18.ext xx3).ld rfl, _, (B1_.ext xx3).ld rfl, (Gv.ext xx3).f hkm ?_⟩
    rw [ef.1]
    refine (Sd.ext xx3).rdB ef.2 (ifP_of (fun h => ?_) (fun h => ⟨by rw [h]; rfl, rfl⟩))
    refine ⟨_, (B40.ext xx3).ld rfl, _, (B1_.ext xx3).ld rfl, (Gv.ext xx3).t hkm ?_⟩
    rw [et.1]
    exact (Sd2.ext xx3).rdB et.2 ⟨by rw [h]; rfl, rfl⟩
  · rintro gr _ ⟨hgr, rfl⟩
    change gr = _ at hgr
    subst hgr
    have ew : IntKind.i64.wrap (OutF m (frE es) (toE es) f s' + 1) = OutF m (frE es) (toE es) f s' + 1 := w64_in (by omega) (by omega)
    rw [ew]
    rcases hmore with ⟨hv, h1, h2⟩ | ⟨hv, hno⟩
    · have e1 := r1.2 h1
      have e2 := r2.2 h2
      rw [e1, e2]
      refine ifP_of (fun _ => ifP_of (fun _ => ⟨rfl, xh⟩) (fun h => by cases h)) (fun h => by have := of_decide_eq_false h; exact absurd hv this)
    · have e1 : (sd (frE es kk) && sd2 (toE es kk)) = false := by
        cases e1 : sd (frE es kk)
        · rfl
        · cases e2 : sd2 (toE es kk)
          · rfl
          · exact absurd ⟨r1.1 e1, r2.1 e2⟩ hno
      rw [e1]
      refine ifP_of (fun h => by have := of_decide_eq_true h; omega) (fun _ => ?_)
      exact ifP_of (fun _ => ⟨rfl, xh⟩) (fun h => by have := of_decide_eq_false h; exact absurd hv this)
end

end Go.Proofs.Ythglkcpoofenbaa

/-! FlowWays. -/
namespace Go.Proofs.Ythglkcpoofenbaa
open Go
set_option linter.unusedVariables false
set_option linter.unusedSimpArgs false

/-- All capacities are 1. -/
def oneE (es : Nat → Ed) (i : Nat) : Ed := ⟨(es i).f, (es i).t, 1, (es i).k⟩
section
variable {n m : Nat} {fr to : Nat → Nat} {f : Nat → Int} {s t : Nat}
theorem OutF_upd {i : Nat} {x : Int} (hi : i < m) (u : Nat) : OutF m fr to (upd f i x) u = OutF m fr to f u + (if fr i = u then x - f i else 0) - (if to i = u then x - f i else 0) := by
  unfold OutF
  have e : (fun j => (if fr j = u then upd f i x j else 0) - (if to j = u then upd f i x j else 0)) =
      upd (fun j => (if fr j = u then f j else 0) - (if to j = u then f j else 0)) i ((if fr i = u then x else 0) - (if to i = u then x else 0)) := by
    funext j
    by_cases e : j = i
    · subst e; rw [upd_at, upd_at]
    · rw [upd_ne e, upd_ne e]
  rw [e, sumN_upd hi]
  split <;> split <;> omega
theorem OutF_pos {u : Nat} (h : 0 < OutF m fr to f u) (hn : ∀ i, i < m → 0 ≤ f i) : ∃ i, i < m ∧ fr i = u ∧ 0 < f i := by
  apply Classical.byContradiction
  intro hno
  have : OutF m fr to f u ≤ m * 0 := sumN_bd fun i hi => by
    have h0 := hn i hi
    by_cases h1 : fr i = u
    · have : ¬ 0 < f i := fun h => hno ⟨i, hi, h1, h⟩
      rw [if_pos h1]; split <;> omega
    · rw [if_neg h1]; split <;> omega
  omega
end

section
variable {h : H} {w : List Value}
theorem FlowWays_T {n : Int} {m : Nat} {es : Nat → Ed} (G : GrA h w n m es) (hm : m ≤ 4398046511104) (s t k : Int) :
    T Try.prog F.compasslaw13_FlowWays [.agg ⟨w⟩, .agg ⟨[.int .i64 s, .int .i64 t]⟩, .int .i64 k] h fun r h' => r = .ret (.bool true) ∧ Ext h h' := by
  refine E_compasslaw13_FlowWays ?_
  unfold B_compasslaw13_FlowWays
  refine new_bl ?_
  intro b1 q2 hb1 x1 B1_
  refine new_bl ?_
  intro b3 q4 hb3 x3 B3
  refine awake_T.mono ?_
  rintro _ q6 ⟨rfl, x6⟩
  refine rt_ret ⟨_, rfl, ifP_of (fun h => by cases h) (fun _ => ?_)⟩
  have xh := (x1.trans' x3).trans' x6
  have B1_ := (B1_.ext x3).ext x6
  have B3 := B3.ext x6
  have G := G.ext xh
  refine B1_.ldN G.one.1 ?_
  refine (Copy_R G hm).mono ?_
  rintro _ q10 ⟨v3, own, rfl, bs, k1⟩
  refine rt_ret ⟨_, rfl, rfl, new_bl_st rfl rfl (by intro v hv; simp only [List.mem_cons, List.mem_nil_iff, or_false] at hv; rcases hv with rfl | rfl; rfl; exact slc_one k1.isS) ?_⟩
  intro b12 q14 hb12 x12 B12
  have bs := bs.nw (j := 2) x12 hb12
  have k1 := k1.nw (j := 2) x12 hb12
  have k2 : B1 (own1 own b12 2) q14 2 b12 _ := B1.new B12
  generalize own1 own b12 2 = own at *
  refine ⟨_, k2.ld rfl, k1.gs.len fun _ _ => ?_⟩
  let I : (Int × Unit) → H → Nat → Prop := fun p q z => ∃ (j : Nat) (es' : Nat → Ed), p.1 = j ∧ j ≤ m ∧ z = m - j ∧ Bs q6 own q ∧ B1 own q 2 b12 [.int .i64 n, v3] ∧ S4 own q 1 v3 m es' ∧
    (∀ l, l < m → es' l = if l < j then oneE es l else es l)
  refine ⟨fun p q => ∃ k, I p q k, rk I, rk_wf I, ⟨_, 0, es, rfl, by omega, rfl, bs, k2, k1, fun l _ => by rw [if_neg (by omega)]⟩, ?_⟩
  clear bs k2 k1 B12
  intro p q hI
  obtain ⟨j, es', e1, hj, hkz, bs, k2, k1, hes⟩ := mu_spec hI
  generalize hkk : mu I ((p, ()), q) = km at *
  change p = (j : Int) at e1
  subst e1
  have hlt : j < m → m - (j + 1) < mu I (((j : Int), ()), q) := fun h => by rw [hkk, hkz]; omega
  clear hI
  refine ifP_of (fun h1 => ?_) (fun h1 => ?_)
  · have hjm : j < m := by have := of_decide_eq_true h1; omega
    refine ⟨_, k2.ld rfl, ?_⟩
    rw [i64_inc (by omega)]
    refine k1.setC hjm ?_
    intro q25 F k1
    have bs := bs.fm F (by simp <;> omega)
    have k2 := k2.fm F (by simp <;> omega)
    refine mu_next (I := I) (k := m - (j + 1)) ⟨j + 1, _, rfl, hjm, rfl, bs, k2, k1, fun l hl => ?_⟩ (hlt hjm)
    unfold capE
    by_cases e : l = j
    · subst e
      rw [if_pos rfl, if_pos (by omega), hes l hl, if_neg (by omega)]; rfl
    · rw [if_neg e, hes l hl]
      by_cases e2 : l < j
      · rw [if_pos e2, if_pos (by omega)]
      · rw [if_neg e2, if_neg (by omega)]
  have : j = m := by have := of_decide_eq_false h1; omega
  subst this
  clear hlt hkk hkz h1 hj
  have k1 := k1.congr (es' := oneE es) fun l hl => by rw [hes l hl, if_pos hl]
  clear hes
  have B3 := B3.ext bs.ext
  have xh := xh.trans' bs.ext
  refine k2.ldN rfl (end0 B3 (end1 B3 ?_))
  refine (Solve_T (k1.gs.gr n) s t k).mono ?_
  rintro _ q32 ⟨x32, hA⟩
  have B3 := B3.ext x32
  have xh := xh.trans' x32
  rcases hA with ⟨hw, rfl⟩ | ⟨hw, n', s', t', c1, c2, f, sd, rfl, rfl, rfl, hs, ht, hst, g, rfl, S⟩
  · refine rt_ret ⟨_, rfl, _, _, rfl, new_bl_st rfl rfl (by simp [Value.oneCell']) ?_⟩
    intro b36 q38 hb36 x36 B36
    exact ifP_of (fun _ => ⟨by simp, xh.trans' x36⟩) (fun h => absurd (by simpa using h) hw)
  have m1 := g.m1
  have n1 := g.n1
  refine rt_ret ⟨_, rfl, _, _, rfl, new_bl_st rfl rfl (by simp [Value.oneCell']) ?_⟩
  intro b36 q38 hb36 x36 B36
  have xx := x32.trans' x36
  have FX : Fm [] own q own q38 := Fm.of_ext xx
  have bs := bs.fm FX (by simp <;> omega)
  have k1 := k1.fm FX (by simp <;> omega)
  have k2 := k2.fm FX (by simp <;> omega)
  have B3 := B3.ext x36
  have xh := xh.trans' x36
  have So := (RS.of_sl S.s1).ext x36
  refine ifP_of (fun h => by simp at h) (fun _ => new_bl ?_)
  intro b39 q40 hb39 x39 B39
  have bs := bs.nw (j := 5) x39 hb39
  have k1 := k1.nw (j := 5) x39 hb39
  have k2 := k2.nw (j := 5) x39 hb39
  have k5 : S1 (own1 own b39 5) q40 5 (.slice (some (bk b39)) 0 0) [] := .inr ⟨b39, own1_at, 0, B39.choose, [], rfl, B39.choose_spec, rfl⟩
  generalize own1 own b39 5 = own at *
  refine ⟨_, (B36.ext x39).ld rfl, ?_⟩
  refine k5.catR (So.ext x39) ints_one (by omega) (by rw [ints_length]; simp; omega) ?_
  intro s42 own q43 F k5
  rw [List.nil_append] at k5
  have bs := bs.fm F (by simp <;> omega)
  have k1 := k1.fm F (by simp <;> omega)
  have k2 := k2.fm F (by simp <;> omega)
  have vb := val_bd g S.mx hs
  have fb : ∀ i, i < j → 0 ≤ f i ∧ f i ≤ 1 := fun i hi => S.mx.fl.cp i hi
  have fsink := S.mx.fl.sink g.ends hs ht hst
  obtain ⟨vN, hvN⟩ : ∃ vN : Nat, OutF j (frE (oneE es)) (toE (oneE es)) f s' = vN := ⟨(OutF j (frE (oneE es)) (toE (oneE es)) f s').toNat, by omega⟩
  have hcons := S.mx.fl.cons
  have xh6 : Ext h q6 := (x1.trans' x3).trans' x6
  have B36 : True := trivial
  have B3_6 : Bl q6 b3 [.int .i64 s', .int .i64 t'] := by assumption
  generalize hfr : frE (oneE es) = fr at *
  generalize hto : toE (oneE es) = to at *
  have ends := g.ends
  rw [hfr, hto] at ends
  rw [hvN] at fsink ⊢
  -- way after way
  let I44 : (Int × Unit) → H → Nat → Prop := fun p q z => ∃ (a : Nat) (left : Nat → Int), p.1 = a ∧ a ≤ vN ∧ z = vN - a ∧ Bs q6 own q ∧ B1 own q 2 b12 [.int .i64 n', v3] ∧ S4 own q 1 v3 j (oneE es) ∧ S1 own q 5 s42 (ints j left) ∧
    (∀ i, i < j → 0 ≤ left i ∧ left i ≤ 1) ∧ ∀ u, u < n' → OutF j fr to left u = (if s' = u then (vN : Int) - a else 0) - (if t' = u then (vN : Int) - a else 0)
  refine ⟨fun p q => ∃ k, I44 p q k, rk I44, rk_wf I44, ⟨_, 0, f, rfl, by omega, rfl, bs, k2, k1, k5, fb, fun u hu => ?_⟩, ?_⟩
  · by_cases e1 : s' = u
    · subst e1; rw [if_pos rfl, if_neg (fun h => hst h.symm), hvN]; omega
    · by_cases e2 : t' = u
      · subst e2; rw [if_neg e1, if_pos rfl, fsink]; omega
      · rw [if_neg e1, if_neg e2, hcons u hu (fun h => e1 h.symm) (fun h => e2 h.symm)]; rfl
  clear bs k2 k1 k5
  intro p qa hI
  obtain ⟨a, left, e1, ha, hkz, bs, k2, k1, k5, hlb, hout⟩ := mu_spec hI
  generalize hkk : mu I44 ((p, ()), qa) = km at *
  change p = (a : Int) at e1
  subst e1
  have hlt : a < vN → vN - (a + 1) < mu I44 (((a : Int), ()), qa) := fun h => by rw [hkk, hkz]; omega
  clear hI
  have B3a := B3_6.ext bs.ext
  refine ifP_of (fun h1 => ?_) (fun h1 => ?_)
  rotate_left
  · have : a = vN := by have := of_decide_eq_false h1; omega
    subst this
    refine k2.ldN rfl (end0 B3a ?_)
    refine (Out_R (k1.gs.gr n') g.w (RS.of_S1 k5) (fun i hi => by have := hlb i hi; omega) s').mono ?_
    rintro _ q88 ⟨rfl, x88⟩
    have := hout s' hs
    rw [if_pos rfl, if_neg (fun h => hst h.symm)] at this
    rw [hfr, hto]
    exact rt_ret ⟨_, rfl, by rw [this]; simp, xh6.trans' (bs.ext.trans' x88)⟩
  have hav : a < vN := by have := of_decide_eq_true h1; omega
  refine end0 B3a ?_
  let I50 : (Int × Int × Unit) → H → Nat → Prop := fun p q z => ∃ (c st : Nat) (left : Nat → Int), p.1 = c ∧ p.2.1 = st ∧ c < n' ∧ (z : Int) = sumN j left ∧ (st : Int) + sumN j left ≤ j ∧ Bs q6 own q ∧ B1 own q 2 b12 [.int .i64 n', v3] ∧ S4 own q 1 v3 j (oneE es) ∧ S1 own q 5 s42 (ints j left) ∧
    (∀ i, i < j → 0 ≤ left i ∧ left i ≤ 1) ∧ ∀ u, u < n' → OutF j fr to left u = (if s' = u then (vN : Int) - a - 1 else 0) - (if t' = u then (vN : Int) - a - 1 else 0) + (if c = u then 1 else 0) - (if t' = u then 1 else 0)
  have sumb : ∀ {left : Nat → Int}, (∀ i, i < j → 0 ≤ left i ∧ left i ≤ 1) → 0 ≤ sumN j left ∧ sumN j left ≤ j := by
    intro left hlb
    have h1 := sumN_nonneg (k := j) fun i hi => (hlb i hi).1
    have h2 := sumN_bd (k := j) (c := 1) fun i hi => (hlb i hi).2
    omega
  have sb := sumb hlb
  refine ⟨fun p q => ∃ k, I50 p q k, rk I50, rk_wf I50, ⟨(sumN j left).toNat, s', 0, left, rfl, rfl, hs, by omega, by omega, bs, k2, k1, k5, hlb, fun u hu => ?_⟩, ?_⟩
  · rw [hout u hu]
    split <;> split <;> omega
  clear bs k2 k1 k5 hlb hout sb left B3a
  intro p st q hI
  obtain ⟨c, st', left, e1, e2, hc, hkz2, hst2, bs, k2, k1, k5, hlb, hout⟩ := mu_spec hI
  generalize hkk2 : mu I50 ((p, st, ()), q) = km2 at *
  change p = (c : Int) at e1
  change st = (st' : Int) at e2
  subst e1 e2
  have hlt2 : ∀ z : Nat, (z : Int) < sumN j left → z < mu I50 (((c : Int), (st' : Int), ()), q) := fun z h => by rw [hkk2]; omega
  clear hI
  have B3q := B3_6.ext bs.ext
  refine end1 B3q (ifP_of (fun h2 => ?_) (fun h2 => ?_))
  rotate_left
  · have : c = t' := by simp at h2; omega
    subst this
    rw [i64_inc (by omega)]
    refine mu_next (I := I44) (k := vN - (a + 1)) ⟨a + 1, left, rfl, hav, rfl, bs, k2, k1, k5, hlb, fun u hu => ?_⟩ (hlt hav)
    rw [hout u hu]
    split <;> split <;> omega
  have h2 : c ≠ t' := by simp at h2; omega
  refine ⟨_, k2.ld rfl, k1.gs.len fun _ _ => ?_⟩
  -- the last edge on
  let I61 : (Int × Int × Unit) → H → Nat → Prop := fun p q z => ∃ (i : Nat), p.2.1 = i ∧ i ≤ j ∧ z = j - i ∧ Bs q6 own q ∧ B1 own q 2 b12 [.int .i64 n', v3] ∧ S4 own q 1 v3 j (oneE es) ∧ S1 own q 5 s42 (ints j left) ∧
    ((p.1 = -1 ∧ ∀ l, l < i → ¬ (fr l = c ∧ 0 < left l)) ∨ ∃ l : Nat, p.1 = l ∧ l < j ∧ fr l = c ∧ 0 < left l)
  refine ⟨fun p q => ∃ k, I61 p q k, rk I61, rk_wf I61, ⟨_, 0, rfl, by omega, rfl, bs, k2, k1, k5, .inl ⟨rfl, fun l hl => by omega⟩⟩, ?_⟩
  clear bs k2 k1 k5 B3q
  intro nx p q63 hI
  obtain ⟨i, e1, hi, hkz3, bs, k2, k1, k5, hnx⟩ := mu_spec hI
  generalize hkk3 : mu I61 ((nx, p, ()), q63) = km3 at *
  change p = (i : Int) at e1
  subst e1
  change (nx = -1 ∧ ∀ l, l < i → ¬ (fr l = c ∧ 0 < left l)) ∨ ∃ l : Nat, nx = l ∧ l < j ∧ fr l = c ∧ 0 < left l at hnx
  have hlt3 : i < j → j - (i + 1) < mu I61 ((nx, (i : Int), ()), q63) := fun h => by clear hnx hI; rw [hkk3, hkz3]; omega
  clear hI
  refine ifP_of (fun h3 => ?_) (fun h3 => ?_)
  · have hij : i < j := by have := of_decide_eq_true h3; omega
    refine k1.gs.e4 hij (new_bl_st rfl rfl (ed_one _) ?_)
    intro b68 q70 hb68 x68 B68
    have FX : Fm [] own q63 own q70 := Fm.of_ext x68
    have bs := bs.ext_ x68
    have k1 := k1.fm FX (by simp <;> omega)
    have k2 := k2.fm FX (by simp <;> omega)
    have k5 := k5.fm FX (by simp <;> omega)
    rw [i64_inc (by omega)]
    have skip : ¬ (fr i = c ∧ 0 < left i) → (∃ k, I61 (nx, ((i + 1 : Nat) : Int), ()) q70 k) ∧ rk I61 ((nx, ((i + 1 : Nat) : Int), ()), q70) ((nx, (i : Int), ()), q63) := by
      intro hno
      refine mu_next (I := I61) (k := j - (i + 1)) ⟨i + 1, rfl, hij, rfl, bs, k2, k1, k5, ?_⟩ (hlt3 hij)
      rcases hnx with ⟨h, h'⟩ | h
      · refine .inl ⟨h, fun l hl => ?_⟩
        by_cases e : l = i
        · subst e; exact hno
        · exact h' l (by omega)
      · exact .inr h
    refine k5.rdI hij (ifP_of (fun h4 => ?_) (fun h4 => skip fun h => of_decide_eq_false h4 h.2))
    have h4 := of_decide_eq_true h4
    have ef := g.fr hij
    rw [hfr] at ef
    refine ⟨_, B68.ed.1, ?_⟩
    rw [ef.1]
    refine ifP_of (fun h5 => ?_) (fun h5 => skip fun h => by have := of_decide_eq_false h5; omega)
    have h5 : fr i = c := by have := of_decide_eq_true h5; omega
    exact mu_next (I := I61) (k := j - (i + 1)) ⟨i + 1, rfl, hij, rfl, bs, k2, k1, k5, .inr ⟨i, rfl, hij, h5, h4⟩⟩ (hlt3 hij)
  have : i = j := by have := of_decide_eq_false h3; omega
  subst this
  clear hlt3 hkk3 hkz3 h3 hi
  have hpos : 0 < OutF i fr to left c := by
    rw [hout c hc, if_neg (c := t' = c) (fun h => h2 h.symm), if_neg (c := t' = c) (fun h => h2 h.symm), if_pos rfl]
    split <;> omega
  obtain ⟨l0, hl0, hl1, hl2⟩ := OutF_pos hpos fun l hl => (hlb l hl).1
  rcases hnx with ⟨_, h'⟩ | ⟨l, rfl, hl, hfl, hll⟩
  · exact absurd ⟨hl1, hl2⟩ (h' l0 hl0)
  refine ifP_of (fun h => by have := of_decide_eq_true h; omega) (fun _ => ?_)
  refine k5.len (ints_length _ _) fun _ _ => ?_
  have sb := sumb hlb
  refine ifP_of (fun h => by have := of_decide_eq_true h; omega) (fun _ => ?_)
  have hb1 := hlb l hl
  have ew : IntKind.i64.wrap (left l - 1) = left l - 1 := w64_in (by omega) (by omega)
  refine k5.rdI hl (k5.setI hl ?_)
  intro q80 F k5
  rw [ew] at k5
  have bs := bs.fm F (by simp <;> omega)
  have k1 := k1.fm F (by simp <;> omega)
  have k2 := k2.fm F (by simp <;> omega)
  have et := g.to hl
  rw [hto] at et
  refine ⟨_, k2.ld rfl, k1.gs.t hl ?_⟩
  rw [et.1, i64_inc (by omega)]
  have sb2 : sumN i (upd left l (left l - 1)) = sumN i left - 1 := by rw [sumN_upd hl]; omega
  have sb3 := sumN_mem (f := left) (k := i) (fun l hl => (hlb l hl).1) hl
  refine mu_next (I := I50) (k := (sumN i left - 1).toNat) ⟨to l, st' + 1, _, rfl, rfl, et.2, by rw [sb2]; omega, by rw [sb2]; omega, bs, k2, k1, k5, fun l2 hl2 => ?_, fun u hu => ?_⟩ (hlt2 _ (by omega))
  · by_cases e : l2 = l
    · subst e; rw [upd_at]; omega
    · rw [upd_ne e]; exact hlb l2 hl2
  · rw [OutF_upd hl, hout u hu, hfl]
    have e : left l - 1 - left l = -1 := by omega
    rw [e]
    by_cases c1 : c = u <;> by_cases c2 : to l = u <;> simp [c1, c2] <;> omega
end

end Go.Proofs.Ythglkcpoofenbaa

