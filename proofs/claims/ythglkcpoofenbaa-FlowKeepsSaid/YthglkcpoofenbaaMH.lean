import Derived.Deep.Slices
import Derived.Deep.Fields
import Derived.ChangeSame
import Derived.SizedLaws
import Derived.WalkKit
import Derived.ProofKit
import Derived.OpenShut
import Derived.ShutString
import Derived.ChangeOld
import Derived.Below
import Derived.Test.YthglkcpoofenbaaProg
import Derived.Test.YthglkcpoofenbaaMG
/-! Trees: the state, drop. -/
namespace Go.Proofs.Ythglkcpoofenbaa
open Go
set_option linter.unusedVariables false
set_option linter.unusedSimpArgs false

theorem Forest.of {own own' : Own} {h h' : H} {bf bn n : Nat} {par tv : Nat → Int} {M : List Nat} (P : Forest h bf bn n par tv) (F : Fm M own h own' h') (h1 : own bf ∉ M) (h2 : own bn ∉ M) : Forest h' bf bn n par tv := by
  obtain ⟨sm, fst, e, st, L, pd, fz, I⟩ := P
  obtain ⟨ne, ef, hd⟩ := fz.hd
  exact ⟨sm, fst, e, st, L, pd, ⟨⟨ne, ef, F.keep _ _ hd h1⟩, F.keep _ _ fz.at_ h2⟩, I⟩
theorem Forest.some_ {h : H} {bf bn n : Nat} {par tv : Nat → Int} (P : Forest h bf bn n par tv) : ∃ o, h bn = some o := by
  obtain ⟨sm, fst, e, st, L, pd, fz, I⟩ := P
  exact ⟨_, fz.at_⟩
theorem Forest.some2 {h : H} {bf bn n : Nat} {par tv : Nat → Int} (P : Forest h bf bn n par tv) : (∃ o, h bf = some o) ∧ bf ≠ bn := by
  obtain ⟨sm, fst, e, st, L, pd, fz, I⟩ := P
  exact ⟨⟨_, fz.hd.2.choose_spec⟩, fz.hd.1⟩

/-- trees in the heap: owners 5 (the struct), 6 (via), 7 (level), 8 (next), 9 and 11 (the forest). -/
structure Tr (own : Own) (h : H) (bt bn bf bg n m : Nat) (fr to : Nat → Nat) (s t : Nat) (room lev nxt via par tv : Nat → Int) : Prop where
  net : Net own h bn n m fr to s t room
  ex : ∃ vv vl vn, B1 own h 5 bt [.pointer (some (bk bn)), fo bf, vv, vl, vn] ∧ S1 own h 6 vv (ints n via) ∧ S1 own h 7 vl (ints n lev) ∧ S1 own h 8 vn (ints n nxt)
  fo_ : Forest h bf bg n par tv
  o9 : own bf = 9
  o11 : own bg = 11
/-- v hangs by its arc a. -/
structure Hg (n m : Nat) (fr to : Nat → Nat) (lev0 lev E nxt via par tv : Nat → Int) (v a : Nat) : Prop where
  via_ : via v = a
  am : a < 2 * m
  tl : tlA fr to a = v
  nx : ∃ l : Nat, nxt v = l ∧ (arcsL fr to m v)[l]? = some a
  par_ : par v = (hdA fr to a : Nat)
  tv_ : tv v = E a
  l1 : lev v = lev0 v
  l2 : lev (hdA fr to a) = lev0 (hdA fr to a)
  l3 : lev0 (hdA fr to a) = lev0 v + 1
  l4 : 0 ≤ lev0 v
/-- E: the rooms if all hung off. -/
structure TrI (n m : Nat) (fr to : Nat → Nat) (cap : Nat → Int) (s t : Nat) (lev0 lev E room nxt via par tv : Nat → Int) : Prop where
  rmE : RmP m cap E
  rmR : RmP m cap room
  lk : ∀ v, v < n → (via v = -1 ∧ par v = -1) ∨ ∃ a, Hg n m fr to lev0 lev E nxt via par tv v a
  eq : ∀ b, b < 2 * m → (∀ v, v < n → via v ≠ b ∧ via v ≠ prA b) → room b = E b
  nb : ∀ u, u < n → 0 ≤ nxt u ∧ nxt u ≤ (arcsL fr to m u).length
  al : ∀ w, w < n → lev w = lev0 w ∨ (lev w = -1 ∧ nxt w = (arcsL fr to m w).length ∧ w ≠ t ∧ w ≠ s)

theorem RmP.snd' {m : Nat} {cap room : Nat → Int} (R : RmP m cap room) {a : Nat} {x : Int} (ha : a < 2 * m) (h0 : 0 ≤ room (prA a) + x) (h1 : 0 ≤ room a - x) : RmP m cap (sndR room a x) := by
  have hp := prA_lt ha
  refine ⟨fun b hb => ?_, fun i hi => ?_⟩
  · by_cases e1 : b = a
    · subst e1; rw [sndR_a]; omega
    · by_cases e2 : b = prA a
      · subst e2; rw [sndR_p]; omega
      · rw [sndR_o e1 e2]; exact R.pos b hb
  · have e0 := R.sum i hi
    by_cases e1 : 2 * i = a
    · subst e1
      have e2 : prA (2 * i) = 2 * i + 1 := by unfold prA; rw [if_pos (by omega)]
      have p := sndR_p (room := room) (a := 2 * i) (x := x)
      rw [e2] at p
      rw [sndR_a, p]; omega
    · by_cases e2 : 2 * i + 1 = a
      · subst e2
        have e3 : prA (2 * i + 1) = 2 * i := by unfold prA; rw [if_neg (by omega)]; omega
        have p := sndR_p (room := room) (a := 2 * i + 1) (x := x)
        rw [e3] at p
        rw [sndR_a, p]; omega
      · have : 2 * i ≠ prA a ∧ 2 * i + 1 ≠ prA a := by unfold prA; split <;> omega
        rw [sndR_o e1 this.1, sndR_o e2 this.2]; exact e0

section
variable {n m s t : Nat} {fr to : Nat → Nat} {cap lev0 lev E room nxt via par tv : Nat → Int}
theorem Hg.par_ne {v a : Nat} (g : Hg n m fr to lev0 lev E nxt via par tv v a) : par v ≠ -1 := by
  rw [g.par_]; omega
theorem TrI.hg (I : TrI n m fr to cap s t lev0 lev E room nxt via par tv) {v : Nat} (hv : v < n) (h : via v ≠ -1) : ∃ a, Hg n m fr to lev0 lev E nxt via par tv v a := by
  rcases I.lk v hv with h2 | h2
  · exact absurd h2.1 h
  · exact h2
theorem TrI.hgp (I : TrI n m fr to cap s t lev0 lev E room nxt via par tv) {v : Nat} (hv : v < n) (h : par v ≠ -1) : ∃ a, Hg n m fr to lev0 lev E nxt via par tv v a := by
  rcases I.lk v hv with h2 | h2
  · exact absurd h2.2 h
  · exact h2
/-- No two hang by the same edge. -/
theorem Hg.ne {v u a b : Nat} (g : Hg n m fr to lev0 lev E nxt via par tv v a) (k : Hg n m fr to lev0 lev E nxt via par tv u b) (h : v ≠ u) : b ≠ a ∧ b ≠ prA a := by
  constructor
  · rintro rfl; exact h (g.tl.symm.trans k.tl)
  · rintro rfl
    have h1 := k.l3
    have h2 := g.l3
    rw [hd_pr] at h1
    have h3 := k.tl
    rw [tl_pr] at h3
    rw [g.tl] at h1
    rw [h3] at h2
    omega
theorem TrI.drop (I : TrI n m fr to cap s t lev0 lev E room nxt via par tv) {v a : Nat} (hv : v < n) (g : Hg n m fr to lev0 lev E nxt via par tv v a) :
    TrI n m fr to cap s t lev0 lev E (sndR room a (room a - E a)) nxt (upd via v (-1)) (upd par v (-1)) (upd tv v 0) := by
  have p1 := I.rmE.pos a g.am
  have p2 := I.rmE.pos _ (prA_lt g.am)
  have q1 := I.rmE.pr g.am
  have q2 := I.rmR.pr g.am
  refine ⟨I.rmE, I.rmR.snd' g.am (by omega) (by omega), ?_, ?_, I.nb, I.al⟩
  · intro u hu
    by_cases e : u = v
    · subst e; exact .inl ⟨if_pos rfl, if_pos rfl⟩
    · have e1 : upd via v (-1) u = via u := if_neg e
      have e2 : upd par v (-1) u = par u := if_neg e
      have e3 : upd tv v 0 u = tv u := if_neg e
      rcases I.lk u hu with h | ⟨b, k⟩
      · exact .inl ⟨e1.trans h.1, e2.trans h.2⟩
      · exact .inr ⟨b, e1.trans k.via_, k.am, k.tl, k.nx, e2.trans k.par_, e3.trans k.tv_, k.l1, k.l2, k.l3, k.l4⟩
  · intro b hb hno
    by_cases e1 : b = a
    · subst e1; rw [sndR_a]; omega
    · by_cases e2 : b = prA a
      · subst e2; rw [sndR_p]; omega
      · rw [sndR_o e1 e2]
        refine I.eq b hb fun u hu => ?_
        by_cases e : u = v
        · subst e
          rw [g.via_]
          have : a ≠ prA b := by rintro rfl; exact e2 (prA_pr b).symm
          omega
        · have e3 : upd via v (-1) u = via u := if_neg e
          have := hno u hu
          rwa [e3] at this
end

section
variable {own : Own} {h : H} {bt bn bf bg n m s t : Nat} {fr to : Nat → Nat} {cap lev0 lev E room nxt via par tv : Nat → Int}
theorem Tr.fm {own' : Own} {h' : H} {M : List Nat} (P : Tr own h bt bn bf bg n m fr to s t room lev nxt via par tv) (F : Fm M own h own' h') (hM : ∀ i, i ∈ M → 11 < i ∧ i < 20) :
    Tr own' h' bt bn bf bg n m fr to s t room lev nxt via par tv := by
  have no : ∀ j, j ≤ 11 → j ∉ M := fun j hj hm => by have := hM j hm; omega
  obtain ⟨vv, vl, vn, k5, k6, k7, k8⟩ := P.ex
  obtain ⟨⟨o1, e1⟩, _⟩ := P.fo_.some2
  obtain ⟨o2, e2⟩ := P.fo_.some_
  exact ⟨P.net.fm F fun i hi => by have := hM i hi; omega, ⟨vv, vl, vn, k5.fm F (no _ (by omega)), k6.fm F (no _ (by omega)), k7.fm F (no _ (by omega)), k8.fm F (no _ (by omega))⟩,
    P.fo_.of F (by rw [P.o9]; exact no _ (by omega)) (by rw [P.o11]; exact no _ (by omega)), (F.stay _ _ e1).2.trans P.o9, (F.stay _ _ e2).2.trans P.o11⟩
/-- Behind a change of the forest alone. -/
theorem Tr.kp {h' : H} {par' tv' : Nat → Int} (P : Tr own h bt bn bf bg n m fr to s t room lev nxt via par tv) (k : Kp bg h h') (Q : Forest h' bf bg n par' tv') :
    Fm [11] own h own h' ∧ Tr own h' bt bn bf bg n m fr to s t room lev nxt via par' tv' := by
  have F : Fm [11] own h own h' := Fm.kp k P.o11 Q.some_
  obtain ⟨vv, vl, vn, k5, k6, k7, k8⟩ := P.ex
  exact ⟨F, P.net.fm F (by simp), ⟨vv, vl, vn, k5.fm F (by simp <;> omega), k6.fm F (by simp <;> omega), k7.fm F (by simp <;> omega), k8.fm F (by simp <;> omega)⟩, Q, P.o9, P.o11⟩

theorem drop_T {lev1 : Nat → Int} (P : Tr own h bt bn bf bg n m fr to s t room lev1 nxt via par tv) (I : TrI n m fr to cap s t lev0 lev E room nxt via par tv) (hc : ∀ i, i < m → cap i ≤ 1048576) (m1 : m ≤ 4096) {v a : Nat} (hv : v < n)
    (g : Hg n m fr to lev0 lev E nxt via par tv v a) :
    T Try.prog F.maxflow_trees_drop [.pointer (some (bk bt)), .int .i64 v] h fun r h' => r = .ret (.tuple ⟨[]⟩) ∧ Fm [2, 6, 11] own h own h' ∧
      Tr own h' bt bn bf bg n m fr to s t (sndR room a (room a - E a)) lev1 nxt (upd via v (-1)) (upd par v (-1)) (upd tv v 0) := by
  refine E_maxflow_trees_drop ?_
  unfold B_maxflow_trees_drop
  obtain ⟨vv, vl, vn, k5, _, _, _⟩ := P.ex
  refine ptrP_mk ⟨_, k5.ld rfl, ?_⟩
  have cc : childC n par (v : Int) = 0 := by rw [childC_nat hv, if_neg g.par_ne]
  refine (Cut_T P.fo_ v).mono ?_
  rintro _ g4 ⟨kp, rfl, Q, _⟩
  have Q := Q cc
  rw [Int.toNat_natCast] at Q
  rw [cc, if_pos rfl, Int.toNat_natCast]
  refine rt_ret ⟨_, _, rfl, ?_⟩
  obtain ⟨F1, P1⟩ := P.kp kp Q
  obtain ⟨vv, vl, vn, k5, k6, k7, k8⟩ := P1.ex
  have N := P1.net
  obtain ⟨vto, vroom, vout, outs, q4, q1, q2, q3, qa⟩ := N.ex
  refine ptrP_mk ⟨_, k5.ld rfl, k6.rdI hv ?_⟩
  rw [g.via_]
  refine ptrP_mk (ptrP_mk ⟨_, k5.ld rfl, _, k5.ld rfl, ptrP_mk ⟨_, q4.ld rfl, q2.rdI g.am ?_⟩⟩)
  have b1 := rm_bd I.rmR hc a g.am
  have b2 := rm_bd I.rmE hc a g.am
  have b3 := I.rmE.pr g.am
  have b4 := I.rmR.pr g.am
  have b5 := rm_bd I.rmE hc _ (prA_lt g.am)
  have ew : IntKind.i64.wrap (room a - tv v) = room a - E a := by rw [g.tv_]; exact w64_in (by omega) (by omega)
  rw [ew]
  refine (send_T N m1 g.am (x := room a - E a) (by omega) (by omega)).mono ?_
  rintro _ g20 ⟨rfl, F2, N⟩
  refine rt_ret ⟨rfl, ?_⟩
  have k5 := k5.fm F2 (by simp <;> omega)
  have k6 := k6.fm F2 (by simp <;> omega)
  have k7 := k7.fm F2 (by simp <;> omega)
  have k8 := k8.fm F2 (by simp <;> omega)
  have Q := Q.of F2 (by rw [P.o9]; simp) (by rw [P.o11]; simp)
  refine ptrP_mk ⟨_, k5.ld rfl, k6.setI hv ?_⟩
  intro g24 F3 k6
  have k5 := k5.fm F3 (by simp <;> omega)
  have k7 := k7.fm F3 (by simp <;> omega)
  have k8 := k8.fm F3 (by simp <;> omega)
  have N := N.fm F3 (by simp <;> omega)
  have Q := Q.of F3 (by rw [P.o9]; simp) (by rw [P.o11]; simp)
  exact ⟨rfl, ((F1.mono (by simp)).trans (F2.mono (by simp))).trans (F3.mono (by simp)), N, ⟨vv, vl, vn, k5, k6, k7, k8⟩, Q, P.o9, P.o11⟩
end

end Go.Proofs.Ythglkcpoofenbaa

/-! Trees: grow. -/
namespace Go.Proofs.Ythglkcpoofenbaa
open Go
set_option linter.unusedVariables false
set_option linter.unusedSimpArgs false

theorem upd_self {f : Nat → Int} {i : Nat} : upd f i (f i) = f := by
  funext j; unfold upd
  split
  · rename_i h; rw [h]
  · rfl
theorem upd_upd {f : Nat → Int} {i : Nat} {x y : Int} : upd (upd f i x) i y = upd f i y := by
  funext j; unfold upd
  split <;> rfl
theorem upd_at {f : Nat → Int} {i : Nat} {x : Int} : upd f i x i = x := if_pos rfl
theorem upd_ne {f : Nat → Int} {i j : Nat} {x : Int} (h : j ≠ i) : upd f i x j = f j := if_neg h

section
variable {n m s t : Nat} {fr to : Nat → Nat} {cap lev0 lev E room nxt via par tv : Nat → Int}
/-- Roots stand no lower than what hangs below them. -/
theorem TrI.rt_lev (I : TrI n m fr to cap s t lev0 lev E room nxt via par tv) (hn : ∀ i, i < m → fr i < n ∧ to i < n) {w r : Nat} (hw : w < n) (R : Rt par w r) : lev0 w ≤ lev0 r ∧ r < n := by
  obtain ⟨l, h1, h2⟩ := R
  induction h1 with
  | root h => cases h2; exact ⟨Int.le_refl _, hw⟩
  | @step v u l h a ih =>
    obtain ⟨b, g⟩ := I.hgp hw (by rw [h]; omega)
    have e : u = hdA fr to b := by have := g.par_; omega
    have hu : u < n := by rw [e]; exact hd_lt hn g.am
    rw [List.getLast?_cons] at h2
    have h2' : l.getLast? = some r := by
      obtain ⟨r', h3, _⟩ := a.last
      rw [h3] at h2 ⊢
      simpa using h2
    obtain ⟨k1, k2⟩ := ih hu h2'
    have := g.l3
    rw [← e] at this
    exact ⟨by omega, k2⟩
/-- An arc up from a root is no edge of the forest. -/
theorem TrI.room_eq (I : TrI n m fr to cap s t lev0 lev E room nxt via par tv) (hn : ∀ i, i < m → fr i < n ∧ to i < n) {v a : Nat} (hv : v < n) (hvia : via v = -1) (ha : a < 2 * m) (ht : tlA fr to a = v)
    (hl : lev0 (hdA fr to a) = lev0 v + 1) : room a = E a := by
  refine I.eq a ha fun u hu => ⟨fun h => ?_, fun h => ?_⟩
  · obtain ⟨b, g⟩ := I.hg hu (by rw [h]; omega)
    have e : b = a := by have := g.via_; omega
    subst e
    have := g.tl
    rw [ht] at this
    subst this
    omega
  · obtain ⟨b, g⟩ := I.hg hu (by rw [h]; omega)
    have e : b = prA a := by have := g.via_; omega
    subst e
    have h1 := g.tl
    have h2 := g.l3
    rw [tl_pr] at h1
    rw [hd_pr, ht] at h2
    rw [h1] at hl
    omega
theorem TrI.adv (I : TrI n m fr to cap s t lev0 lev E room nxt via par tv) {v : Nat} (hvia : via v = -1) (hlv : lev v = lev0 v) (hl0 : 0 ≤ lev0 v) {y : Int} (h0 : 0 ≤ y) (h1 : y ≤ (arcsL fr to m v).length) :
    TrI n m fr to cap s t lev0 lev E room (upd nxt v y) via par tv := by
  refine ⟨I.rmE, I.rmR, fun u hu => ?_, I.eq, fun u hu => ?_, fun w hw => ?_⟩
  · rcases I.lk u hu with h | ⟨a, g⟩
    · exact .inl h
    · have ne : u ≠ v := by
        rintro rfl
        have := g.via_
        omega
      exact .inr ⟨a, g.via_, g.am, g.tl, by rw [upd_ne ne]; exact g.nx, g.par_, g.tv_, g.l1, g.l2, g.l3, g.l4⟩
  · by_cases e : u = v
    · subst e; rw [upd_at]; exact ⟨h0, h1⟩
    · rw [upd_ne e]; exact I.nb u hu
  · rcases I.al w hw with h | ⟨h1, h2, h3⟩
    · exact .inl h
    · by_cases e : w = v
      · subst e; omega
      · rw [upd_ne e]; exact .inr ⟨h1, h2, h3⟩
end

section
variable {own : Own} {h : H} {bt bn bf bg n m s t : Nat} {fr to : Nat → Nat} {cap lev0 lev E room nxt via par tv : Nat → Int}
theorem grow_T (P : Tr own h bt bn bf bg n m fr to s t room lev nxt via par tv) (I : TrI n m fr to cap s t lev0 lev E room nxt via par tv) (hc : ∀ i, i < m → cap i ≤ 1048576)
    (hn : ∀ i, i < m → fr i < n ∧ to i < n) (m1 : m ≤ 4096) (n1 : n ≤ 1024) (hlb : ∀ u, u < n → -1 ≤ lev0 u ∧ lev0 u < n) {v : Nat} (hv : v < n) (hvia : via v = -1) (hpar : par v = -1) (hlv : lev v = lev0 v) (hl0 : 0 ≤ lev0 v) :
    T Try.prog F.maxflow_trees_grow [.pointer (some (bk bt)), .int .i64 v] h fun r h' => ∃ b y via' par' tv', r = .ret (.bool b) ∧ Fm [6, 8, 11] own h own h' ∧
      Tr own h' bt bn bf bg n m fr to s t room lev (upd nxt v y) via' par' tv' ∧ TrI n m fr to cap s t lev0 lev E room (upd nxt v y) via' par' tv' ∧ nxt v ≤ y ∧ y ≤ (arcsL fr to m v).length ∧
      (DdP n m fr to t lev0 E nxt → DdP n m fr to t lev0 E (upd nxt v y)) ∧
      ((b = false ∧ via' = via ∧ par' = par ∧ tv' = tv ∧ y = (arcsL fr to m v).length) ∨ (b = true ∧ ∃ a : Nat, 0 < E a ∧ via' = upd via v a ∧ par' = upd par v (hdA fr to a : Nat) ∧ tv' = upd tv v (E a))) := by
  refine E_maxflow_trees_grow ?_
  unfold B_maxflow_trees_grow
  have hb0 := I.nb v hv
  have hlen := arcsL_length (fr := fr) (to := to) (v := v) (i := m)
  let J : Unit → H → Nat → Prop := fun _ q k => ∃ l : Nat, nxt v ≤ l ∧ l ≤ (arcsL fr to m v).length ∧ k = (arcsL fr to m v).length - l ∧ Fm [6, 8, 11] own h own q ∧ Tr own q bt bn bf bg n m fr to s t room lev (upd nxt v l) via par tv ∧
    TrI n m fr to cap s t lev0 lev E room (upd nxt v l) via par tv ∧ (DdP n m fr to t lev0 E nxt → DdP n m fr to t lev0 E (upd nxt v l))
  refine ⟨fun p q => ∃ k, J p q k, rk J, rk_wf J, ⟨_, (nxt v).toNat, by omega, by omega, rfl, Fm.refl, ?_, ?_, ?_⟩, ?_⟩
  · rw [Int.toNat_of_nonneg hb0.1, upd_self]; exact P
  · rw [Int.toNat_of_nonneg hb0.1, upd_self]; exact I
  · rw [Int.toNat_of_nonneg hb0.1, upd_self]; exact id
  clear P
  intro q hJ
  obtain ⟨l, hl1, hl2, hk, F, P, I2, hd⟩ := mu_spec hJ
  generalize hkk : mu J ((), q) = km at *
  have hltf : l < (arcsL fr to m v).length → (arcsL fr to m v).length - (l + 1) < mu J ((), q) := fun h => by rw [hkk, hk]; omega
  clear hJ
  obtain ⟨vv, vl, vn, k5, k6, k7, k8⟩ := P.ex
  obtain ⟨vto, vroom, vout, outs, q4, q1, q2, q3, qa⟩ := P.net.ex
  refine ptrP_mk (ptrP_mk ⟨_, k5.ld rfl, k8.rdI hv ⟨_, k5.ld rfl, ptrP_mk ⟨_, q4.ld rfl, q3.rdV hv ?_⟩⟩⟩)
  refine (qa v hv).len (natV_length _) fun _ _ => ?_
  rw [upd_at]
  refine ifP_of (fun h1 => ?_) (fun h1 => ?_)
  rotate_left
  · have : l = (arcsL fr to m v).length := by have := of_decide_eq_false h1; omega
    exact ⟨false, l, via, par, tv, rfl, F, P, I2, hl1, by omega, hd, .inl ⟨rfl, rfl, rfl, rfl, by omega⟩⟩
  have hla : l < (arcsL fr to m v).length := by have := of_decide_eq_true h1; omega
  have ha := mem_arcsL.1 (List.getElem_mem hla)
  have hget : (arcsL fr to m v)[l]? = some (arcsL fr to m v)[l] := List.getElem?_eq_getElem hla
  have htk : (arcsL fr to m v).take (l + 1) = (arcsL fr to m v).take l ++ [(arcsL fr to m v)[l]] := List.take_succ_eq_append_getElem hla
  generalize haa : (arcsL fr to m v)[l] = a at ha hget htk
  have hw := hd_lt hn ha.1
  have hlvb := hlb v hv
  refine ptrP_mk (ptrP_mk ⟨_, k5.ld rfl, ptrP_mk ⟨_, q4.ld rfl, q3.rdV hv ⟨_, k5.ld rfl, k8.rdI hv ?_⟩⟩⟩)
  rw [upd_at]
  refine (qa v hv).rd (natV_get hla) ?_
  rw [haa]
  refine ptrP_mk ⟨_, k5.ld rfl, ptrP_mk ⟨_, q4.ld rfl, q1.rdI ha.1 ?_⟩⟩
  refine ptrP_mk ⟨_, k5.ld rfl, ptrP_mk ⟨_, q4.ld rfl, q2.rdI ha.1 ?_⟩⟩
  dsimp only
  have step : ¬ (0 < room a ∧ lev (hdA fr to a) = lev v + 1) → ptrP (.pointer (some (bk bt))) fun a162 => ldV q (a162.add 4) fun x163 => ixS x163 (v : Int) 1 fun a164 => ldI q a164 .i64 fun x165 => ixS x163 (v : Int) 1 fun a166 =>
      stC q a166 (.int .i64 (IntKind.i64.wrap (x165 + 1))) fun h167 => (∃ k, J () h167 k) ∧ rk J ((), h167) ((), q) := by
    intro hno
    refine ptrP_mk ⟨_, k5.ld rfl, k8.rdI hv ?_⟩
    rw [upd_at, i64_inc (by omega)]
    refine k8.setI hv ?_
    intro g77 F2 k8
    rw [upd_upd] at k8
    have N := P.net
    have Fo := P.fo_.of F2 (by rw [P.o9]; simp) (by rw [P.o11]; simp)
    have N := N.fm F2 (by simp <;> omega)
    have k5 := k5.fm F2 (by simp <;> omega)
    have k6 := k6.fm F2 (by simp <;> omega)
    have k7 := k7.fm F2 (by simp <;> omega)
    have I3 := I2.adv (v := v) hvia hlv hl0 (y := ((l + 1 : Nat) : Int)) (by omega) (by omega)
    rw [upd_upd] at I3
    refine mu_next (I := J) (k := (arcsL fr to m v).length - (l + 1)) ⟨l + 1, by omega, hla, rfl, F.trans (F2.mono (by simp)), ⟨N, ⟨vv, vl, vn, k5, k6, k7, k8⟩, Fo, P.o9, P.o11⟩, I3, fun d => ?_⟩ (hltf hla)
    have d2 := hd d
    have grow : ∀ w, w ≠ v → upd nxt v ((l + 1 : Nat) : Int) w = upd nxt v l w := fun w h => by rw [upd_ne h, upd_ne h]
    have len : ∀ w, w < n → upd nxt v l w = (arcsL fr to m w).length → upd nxt v ((l + 1 : Nat) : Int) w = (arcsL fr to m w).length := by
      intro w hw e
      by_cases e2 : w = v
      · subst e2; rw [upd_at] at e; omega
      · rw [grow w e2]; exact e
    intro u hu b hb hr hlb
    by_cases e : u = v
    · subst e
      rw [upd_at, Int.toNat_natCast, htk] at hb
      rcases List.mem_append.1 hb with hb | hb
      · have hbw := hd_lt hn (mem_arcsL.1 (List.mem_of_mem_take hb)).1
        obtain ⟨h1, h2⟩ := d2 u hu b (by rw [upd_at, Int.toNat_natCast]; exact hb) hr hlb
        exact ⟨h1, len _ hbw h2⟩
      · have : b = a := by rw [List.mem_singleton] at hb; exact hb
        subst this
        have er := I2.room_eq hn hv hvia ha.1 ha.2 hlb
        rcases I2.al _ hw with h | ⟨h1, h2, h3, h4⟩
        · exact absurd ⟨by omega, by omega⟩ hno
        · exact ⟨h3, len _ hw h2⟩
    · have e2 : upd nxt v ((l + 1 : Nat) : Int) u = upd nxt v l u := grow u e
      rw [e2] at hb
      have hbw := hd_lt hn (mem_arcsL.1 (List.mem_of_mem_take hb)).1
      obtain ⟨h1, h2⟩ := d2 u hu b hb hr hlb
      exact ⟨h1, len _ hbw h2⟩
  refine ifP_of (fun h2 => ?_) (fun h2 => step fun h => of_decide_eq_false h2 h.1)
  have h2 := of_decide_eq_true h2
  refine ptrP_mk (ptrP_mk ⟨_, k5.ld rfl, k7.rdI hw ⟨_, k5.ld rfl, k7.rdI hv ?_⟩⟩)
  have ew : IntKind.i64.wrap (lev v + 1) = lev v + 1 := w64_in (by omega) (by omega)
  rw [ew]
  refine ifP_of (fun h3 => ?_) (fun h3 => step fun h => of_decide_eq_false h3 h.2)
  have h3 := of_decide_eq_true h3
  have hl2' : lev (hdA fr to a) = lev0 (hdA fr to a) := by
    rcases I2.al _ hw with h | ⟨h1, _⟩
    · exact h
    · omega
  have er := I2.room_eq hn hv hvia ha.1 ha.2 (by omega)
  refine ptrP_mk ⟨_, k5.ld rfl, k6.setI hv ?_⟩
  intro g52 F2 k6
  have N := P.net
  have Fo := P.fo_.of F2 (by rw [P.o9]; simp) (by rw [P.o11]; simp)
  have N := N.fm F2 (by simp <;> omega)
  have k5 := k5.fm F2 (by simp <;> omega)
  have k7 := k7.fm F2 (by simp <;> omega)
  have k8 := k8.fm F2 (by simp <;> omega)
  obtain ⟨vto, vroom, vout, outs, q4, q1, q2, q3, qa⟩ := N.ex
  refine ptrP_mk (ptrP_mk ⟨_, k5.ld rfl, _, k5.ld rfl, ptrP_mk ⟨_, q4.ld rfl, q2.rdI ha.1 ?_⟩⟩)
  refine (Link_T Fo v (hdA fr to a : Nat) (room a)).mono ?_
  rintro _ g62 ⟨kp, c, par', tv', rfl, L, Fo2⟩
  refine rt_ret ⟨c, rfl, ?_⟩
  have b2 := rm_bd I.rmE hc a ha.1
  have hL : par' = upd par v (hdA fr to a : Nat) ∧ tv' = upd tv v (E a) := by
    have i1 := isN_of hv
    have i2 := isN_of hw
    have i3 : isL (room a) := by unfold isL; omega
    have i5 : ¬ Rt par (hdA fr to a) v := fun r => by
      have := (I2.rt_lev hn hw r).1
      omega
    cases L with
    | node h => exact absurd ⟨i1, i2⟩ h
    | label _ _ h => exact absurd i3 h
    | root _ _ _ h => rw [Int.toNat_natCast] at h; exact absurd hpar h
    | cycle _ _ _ _ h => rw [Int.toNat_natCast, Int.toNat_natCast] at h; exact absurd h i5
    | ok => rw [Int.toNat_natCast, er]; exact ⟨rfl, rfl⟩
  obtain ⟨rfl, rfl⟩ := hL
  have F3 : Fm [11] own g52 own g62 := Fm.kp kp P.o11 Fo2.some_
  have N := N.fm F3 (by simp <;> omega)
  have k5 := k5.fm F3 (by simp <;> omega)
  have k6 := k6.fm F3 (by simp <;> omega)
  have k7 := k7.fm F3 (by simp <;> omega)
  have k8 := k8.fm F3 (by simp <;> omega)
  refine ⟨true, l, _, _, _, rfl, (F.trans (F2.mono (by simp))).trans (F3.mono (by simp)), ⟨N, ⟨vv, vl, vn, k5, k6, k7, k8⟩, Fo2, P.o9, P.o11⟩, ?_, hl1, by omega, hd, .inr ⟨rfl, a, by omega, rfl, rfl, rfl⟩⟩
  refine ⟨I2.rmE, I2.rmR, fun u hu => ?_, fun b hb hno => ?_, I2.nb, I2.al⟩
  · by_cases e : u = v
    · subst e
      exact .inr ⟨a, upd_at, ha.1, ha.2, ⟨l, upd_at, hget⟩, upd_at, upd_at, hlv, hl2', by omega, hl0⟩
    · rcases I2.lk u hu with h | ⟨b, g⟩
      · exact .inl ⟨(upd_ne e).trans h.1, (upd_ne e).trans h.2⟩
      · exact .inr ⟨b, (upd_ne e).trans g.via_, g.am, g.tl, g.nx, (upd_ne e).trans g.par_, (upd_ne e).trans g.tv_, g.l1, g.l2, g.l3, g.l4⟩
  · refine I2.eq b hb fun u hu => ?_
    by_cases e : u = v
    · subst e; rw [hvia]; omega
    · have := hno u hu
      rwa [upd_ne e] at this
end

end Go.Proofs.Ythglkcpoofenbaa

/-! Trees: push. -/
namespace Go.Proofs.Ythglkcpoofenbaa
open Go
set_option linter.unusedVariables false
set_option linter.unusedSimpArgs false

/-- What goes along a way. -/
def sndL (E : Nat → Int) (via : Nat → Int) (x : Int) : List Nat → (Nat → Int)
  | [] => E
  | v :: l => if l = [] then E else sndR (sndL E via x l) (via v).toNat x

theorem UpW.nx_par {par : Nat → Int} {v : Nat} {l : List Nat} (h : UpW par v l) : ∀ {A B : List Nat} {a y : Nat}, l = A ++ a :: y :: B → par a = y := by
  induction h with
  | root h =>
    intro A B a y e
    have := congrArg List.length e
    simp at this; omega
  | @step v u l h k ih =>
    intro A B a y e
    cases A with
    | nil =>
      injection e with e1 e2
      subst e1
      obtain ⟨m, hm⟩ := k.head
      rw [hm] at e2
      injection e2 with e3 _
      subst e3; exact h
    | cons b A =>
      injection e with e1 e2
      exact ih e2
theorem UpW.cutA {par : Nat → Int} {v : Nat} {l : List Nat} (h : UpW par v l) : ∀ {A B : List Nat} {a : Nat}, l = A ++ a :: B → a ∉ A → UpW (upd par a (-1)) v (A ++ [a]) := by
  induction h with
  | @root v h =>
    intro A B a e hn
    cases A with
    | nil =>
      injection e with e1 e2
      subst e1
      exact .root upd_at
    | cons b A =>
      have := congrArg List.length e
      simp at this
  | @step v u l h k ih =>
    intro A B a e hn
    cases A with
    | nil =>
      injection e with e1 e2
      subst e1
      exact .root upd_at
    | cons b A =>
      injection e with e1 e2
      subst e1
      have ne : v ≠ a := fun h => hn (by simp [h])
      exact .step (by rw [upd_ne ne]; exact h) (ih e2 fun h => hn (List.mem_cons_of_mem _ h))

theorem UpW.pair {n : Nat} {par : Nat → Int} {d : Nat → Nat} (hd : ∀ v u : Nat, v < n → par v = u → d u < d v) {v : Nat} {l : List Nat} (a : UpW par v l) :
    (∀ x ∈ l, x < n) → l.Pairwise (fun a b => d b < d a) ∧ ∀ x ∈ l, d x ≤ d v := by
  induction a with
  | root h => intro hl; exact ⟨List.pairwise_singleton .., fun x hx => by rw [List.mem_singleton.1 hx]; exact Nat.le_refl _⟩
  | @step v u l h a ih =>
    intro hl
    obtain ⟨h1, h2⟩ := ih (fun x hx => hl x (List.mem_cons_of_mem _ hx))
    have := hd v u (hl v (by simp)) h
    refine ⟨List.Pairwise.cons (fun x hx => ?_) h1, fun x hx => ?_⟩
    · have := h2 x hx; omega
    · rcases List.mem_cons.1 hx with rfl | hx
      · exact Nat.le_refl _
      · have := h2 x hx; omega
theorem UpW.lt {n : Nat} {par tv : Nat → Int} (F : Fst n par tv) {v : Nat} {l : List Nat} (hv : v < n) (a : UpW par v l) : ∀ x ∈ l, x < n := by
  obtain ⟨l', h1, h2⟩ := UpW.exists F v hv
  rw [a.uniq h1]; exact h2
theorem UpW.nodup {n : Nat} {par tv : Nat → Int} (F : Fst n par tv) {v : Nat} {l : List Nat} (hv : v < n) (a : UpW par v l) : l.Nodup := by
  obtain ⟨d, hd⟩ := F.acy
  refine (a.pair hd (a.lt F hv)).1.imp ?_
  intro a b h e
  subst e
  omega
section
variable {n m s t : Nat} {fr to : Nat → Nat} {cap lev0 lev E room nxt via par tv : Nat → Int}
theorem TrI.up_lev (I : TrI n m fr to cap s t lev0 lev E room nxt via par tv) (hn : ∀ i, i < m → fr i < n ∧ to i < n) {w : Nat} {l : List Nat} (h : UpW par w l) : w < n → ∀ x ∈ l, lev0 w ≤ lev0 x ∧ x < n := by
  induction h with
  | @root w h => intro hw x hx; rw [List.mem_singleton] at hx; subst hx; exact ⟨Int.le_refl _, hw⟩
  | @step v u l h k ih =>
    intro hv x hx
    obtain ⟨a, g⟩ := I.hgp hv (by rw [h]; omega)
    have e : u = hdA fr to a := by have := g.par_; omega
    have hu : u < n := by rw [e]; exact hd_lt hn g.am
    have := g.l3
    rw [← e] at this
    rcases List.mem_cons.1 hx with rfl | hx
    · exact ⟨Int.le_refl _, hv⟩
    · have := ih hu x hx
      exact ⟨by omega, this.2⟩

structure SndR (n m : Nat) (fr to : Nat → Nat) (cap : Nat → Int) (E E' via par : Nat → Int) (x : Int) (v r : Nat) (l : List Nat) : Prop where
  rm : RmP m cap E'
  out : ∀ u, OutF m fr to (onR E') u = OutF m fr to (onR E) u + (if v = u then x else 0) - (if r = u then x else 0)
  off : ∀ b : Nat, (∀ w ∈ l, via w ≠ b ∧ via w ≠ prA b) → E' b = E b
  at_ : ∀ w ∈ l, par w ≠ -1 → ∀ a : Nat, via w = a → E' a = E a - x
theorem TrI.sndL (I : TrI n m fr to cap s t lev0 lev E room nxt via par tv) (hn : ∀ i, i < m → fr i < n ∧ to i < n) {x : Int} (hx : 0 ≤ x) {v : Nat} {l : List Nat} (h : UpW par v l) :
    v < n → (∀ w ∈ l, par w ≠ -1 → x ≤ tv w) → ∀ r, l.getLast? = some r → SndR n m fr to cap E (sndL E via x l) via par x v r l := by
  induction h with
  | @root v h =>
    intro hv hl r hr
    have hr : v = r := by simpa using hr
    subst hr
    have e : Go.Proofs.Ythglkcpoofenbaa.sndL E via x [v] = E := rfl
    rw [e]
    exact ⟨I.rmE, fun u => by omega, fun _ _ => rfl, fun w hw hp => by rw [List.mem_singleton] at hw; subst hw; exact absurd h hp⟩
  | @step v u l h k ih =>
    intro hv hl r hr
    obtain ⟨a, g⟩ := I.hgp hv (by rw [h]; omega)
    have e : u = hdA fr to a := by have := g.par_; omega
    have hu : u < n := by rw [e]; exact hd_lt hn g.am
    have hlast : l.getLast? = some r := by
      obtain ⟨r', h3, _⟩ := k.last
      rw [List.getLast?_cons, h3] at hr
      rw [h3]
      simpa using hr
    have S := ih hu (fun w hw => hl w (List.mem_cons_of_mem _ hw)) r hlast
    have hne : l ≠ [] := by intro h; rw [h] at hlast; cases hlast
    have e2 : Go.Proofs.Ythglkcpoofenbaa.sndL E via x (v :: l) = sndR (Go.Proofs.Ythglkcpoofenbaa.sndL E via x l) a x := by
      show (if l = [] then E else _) = _
      rw [if_neg hne, g.via_, Int.toNat_natCast]
    rw [e2]
    generalize Go.Proofs.Ythglkcpoofenbaa.sndL E via x l = E1 at S ⊢
    have up := I.up_lev hn k hu
    have hnv : ∀ w ∈ l, w ≠ v := by
      rintro w hw rfl
      have := (up w hw).1
      have := g.l3
      rw [e] at *
      omega
    have off : ∀ w ∈ l, via w ≠ (a : Int) ∧ via w ≠ (prA a : Nat) := by
      intro w hw
      rcases I.lk w (up w hw).2 with h2 | ⟨b, g2⟩
      · rw [h2.1]; omega
      · have := g.ne g2 (hnv w hw).symm
        rw [g2.via_]; omega
    have ea : E1 a = E a := S.off a off
    have eap : E1 (prA a) = E (prA a) := S.off (prA a) (by rw [prA_pr]; exact fun w hw => ⟨(off w hw).2, (off w hw).1⟩)
    have hxa := hl v (List.mem_cons_self ..) (by rw [h]; omega)
    rw [g.tv_] at hxa
    have hxv : ∀ u, u = hdA fr to a ↔ hdA fr to a = u := fun u => ⟨Eq.symm, Eq.symm⟩
    refine ⟨S.rm.snd g.am hx (by omega), fun w => ?_, fun b hb => ?_, fun w hw hp b hwb => ?_⟩
    · rw [out_snd g.am, S.out, g.tl, ← e]
      split <;> split <;> split <;> omega
    · have h1 := hb v (List.mem_cons_self ..)
      rw [g.via_] at h1
      have h2 : b ≠ a := by omega
      have h3 : b ≠ prA a := by
        rintro rfl
        rw [prA_pr] at h1; omega
      rw [sndR_o h2 h3]
      exact S.off b fun w hw => hb w (List.mem_cons_of_mem _ hw)
    · by_cases ew : w = v
      · subst ew
        have : b = a := by have := g.via_; omega
        subst this
        rw [sndR_a, ea]
      · have hwl : w ∈ l := by
          rcases List.mem_cons.1 hw with h | h
          · exact absurd h ew
          · exact h
        obtain ⟨c, g2⟩ := I.hgp (up w hwl).2 hp
        have : b = c := by have := g2.via_; omega
        subst this
        have := g.ne g2 (fun h => ew h.symm)
        rw [sndR_o this.1 this.2]
        exact S.at_ w hwl hp b hwb
end

section
variable {own : Own} {h : H} {bt bn bf bg n m s t : Nat} {fr to : Nat → Nat} {cap lev0 lev E room nxt via par tv : Nat → Int}
theorem push_T' (P : Tr own h bt bn bf bg n m fr to s t room lev nxt via par tv) (I : TrI n m fr to cap s t lev0 lev E room nxt via par tv) (hc : ∀ i, i < m → cap i ≤ 1048576)
    (hn : ∀ i, i < m → fr i < n ∧ to i < n) (m1 : m ≤ 4096) (n1 : n ≤ 1024) (hs : s < n) (hst : s ≠ t) (hpos : ∀ v, v < n → par v ≠ -1 → 0 < tv v) (hR : Rt par s t) :
    T Try.prog F.maxflow_trees_push [.pointer (some (bk bt))] h fun r h' => ∃ E' room' nxt' via' par' tv' x, r = .ret (.tuple ⟨[]⟩) ∧ Fm [2, 6, 8, 11] own h own h' ∧
      Tr own h' bt bn bf bg n m fr to s t room' lev nxt' via' par' tv' ∧ TrI n m fr to cap s t lev0 lev E' room' nxt' via' par' tv' ∧ (∀ v, v < n → par' v ≠ -1 → 0 < tv' v) ∧
      0 < x ∧ (∀ u, OutF m fr to (onR E') u = OutF m fr to (onR E) u + (if s = u then x else 0) - (if t = u then x else 0)) ∧ Phi3 n m fr to nxt' < Phi3 n m fr to nxt := by
  refine E_maxflow_trees_push ?_
  unfold B_maxflow_trees_push
  obtain ⟨vv, vl, vn, k5, _, _, _⟩ := P.ex
  obtain ⟨vto, vroom, vout, outs, q4, _, _, _, _⟩ := P.net.ex
  have hps : par s ≠ -1 := fun h => hst ((hR.self_iff).2 h).symm
  refine ptrP_mk (ptrP_mk ⟨_, k5.ld rfl, _, k5.ld rfl, ptrP_mk ⟨_, q4.ld rfl, ?_⟩⟩)
  refine (Least_T P.fo_ s).mono ?_
  rintro _ g8 ⟨kp, Q, a0, m0, c0, rfl, LS⟩
  refine rt_ret ⟨_, _, _, rfl, ?_⟩
  obtain ⟨F1, P1⟩ := P.kp kp Q
  clear kp Q k5 q4
  have hx : 0 < m0 ∧ ∃ l, UpW par s l ∧ l.getLast? = some t ∧ (∀ w ∈ l, par w ≠ -1 → m0 ≤ tv w) ∧ ∃ a, a ∈ l ∧ par a ≠ -1 ∧ tv a = m0 := by
    cases LS with
    | bad h => rw [childC_nat hs, if_neg hps] at h; exact absurd rfl h
    | @ok A B a0 r h1 h2 h3 h4 =>
      rw [Int.toNat_natCast] at h2
      have hlast : (A ++ a0 :: B ++ [r]).getLast? = some r := List.getLast?_concat
      have hr : r = t := (Rt.uniq ⟨_, h2, hlast⟩ hR)
      have hpr : par r = -1 := by
        obtain ⟨r', e1, e2⟩ := h2.last
        rw [hlast] at e1; cases e1; exact e2
      have hpa : par a0 ≠ -1 := by
        obtain ⟨y, ys, e⟩ : ∃ y ys, B ++ [r] = y :: ys := by cases B <;> exact ⟨_, _, rfl⟩
        have := h2.nx_par (A := A) (B := ys) (a := a0) (y := y) (by rw [List.append_assoc, List.cons_append, e])
        omega
      have han : a0 < n := (I.up_lev hn h2 hs a0 (by simp)).2
      refine ⟨hpos a0 han hpa, _, h2, by rw [hlast, hr], fun w hw hp => ?_, a0, by simp, hpa, rfl⟩
      simp only [List.mem_append, List.mem_cons, List.mem_nil_iff, or_false] at hw
      rcases hw with (hw | rfl | hw) | rfl
      · exact h3 w hw
      · exact Int.le_refl _
      · have := h4 w hw; omega
      · exact absurd hpr hp
  obtain ⟨hm0, l, hU, hlast, hmin, a1, ha1, hpa1, hta1⟩ := hx
  have han : ∀ w ∈ l, w < n := fun w hw => (I.up_lev hn hU hs w hw).2
  have hb0 : m0 ≤ 1048576 := by
    obtain ⟨b, g⟩ := I.hgp (han a1 ha1) hpa1
    have := rm_bd I.rmE hc b g.am
    rw [← g.tv_, hta1] at this; exact this.2
  obtain ⟨vv, vl, vn, k5, _, _, _⟩ := P1.ex
  obtain ⟨vto, vroom, vout, outs, q4, _, _, _, _⟩ := P1.net.ex
  refine ptrP_mk (ptrP_mk ⟨_, k5.ld rfl, _, k5.ld rfl, ptrP_mk ⟨_, q4.ld rfl, ?_⟩⟩)
  have ew : IntKind.i64.wrap (0 - m0) = - m0 := by
    have : IntKind.i64.wrap (0 - m0) = 0 - m0 := w64_in (by omega) (by omega)
    rw [this]; omega
  rw [ew]
  have tvb : ∀ w, w < n → 0 ≤ tv w ∧ tv w ≤ 1048576 := by
    intro w hw
    rcases I.lk w hw with h | ⟨b, g⟩
    · rw [P.fo_.fst.zero w hw h.2]; omega
    · have := rm_bd I.rmE hc b g.am
      rw [g.tv_]; exact this
  refine (Add_T P1.fo_ s (-m0) (fun _ w hw => by have := tvb w hw; omega)).mono ?_
  rintro _ g19 ⟨kp, c2, tv2, rfl, AS, Q⟩
  refine rt_ret ⟨c2, rfl, ?_⟩
  have htv2 : tv2 = addT tv (edges par l) (-m0) := by
    cases AS with
    | node h => exact absurd (isN_of hs) h
    | label _ h => exact absurd (by unfold isL; omega) h
    | ok _ _ h => rw [Int.toNat_natCast] at h; rw [hU.uniq h]
  subst htv2
  obtain ⟨F2, P2⟩ := P1.kp kp Q
  have F := (F1.mono (M' := [2, 6, 8, 11]) (by simp)).trans (F2.mono (by simp))
  clear F1 F2 kp Q k5 q4 P1 AS LS
  have S := I.sndL hn (by omega) hU hs hmin t hlast
  generalize sndL E via m0 l = E2 at S
  have mem_e : ∀ w, w ∈ edges par l ↔ w ∈ l ∧ par w ≠ -1 := by
    intro w; unfold edges; simp
  have I2 : TrI n m fr to cap s t lev0 lev E2 room nxt via par (addT tv (edges par l) (-m0)) := by
    refine ⟨S.rm, I.rmR, fun w hw => ?_, fun b hb hno => ?_, I.nb, I.al⟩
    · rcases I.lk w hw with h | ⟨b, g⟩
      · exact .inl h
      · refine .inr ⟨b, g.via_, g.am, g.tl, g.nx, g.par_, ?_, g.l1, g.l2, g.l3, g.l4⟩
        unfold addT
        by_cases hwl : w ∈ l
        · rw [if_pos ((mem_e w).2 ⟨hwl, g.par_ne⟩), S.at_ w hwl g.par_ne b g.via_, g.tv_]; omega
        · rw [if_neg (fun h => hwl ((mem_e w).1 h).1), g.tv_]
          refine (S.off b fun y hy => ?_).symm
          rcases I.lk y (han y hy) with h2 | ⟨c, g2⟩
          · rw [h2.1]; omega
          · have := g.ne g2 (by rintro rfl; exact hwl hy)
            rw [g2.via_]
            have h3 : c ≠ prA b := this.2
            omega
    · rw [I.eq b hb hno]
      exact (S.off b fun y hy => hno y (han y hy)).symm
  -- the loop
  let J : Unit → H → Nat → Prop := fun _ q k => ∃ room' nxt' via' par' tv', k = (Phi3 n m fr to nxt').toNat ∧ Fm [2, 6, 8, 11] own h own q ∧ Tr own q bt bn bf bg n m fr to s t room' lev nxt' via' par' tv' ∧
    TrI n m fr to cap s t lev0 lev E2 room' nxt' via' par' tv' ∧ (∀ w, w < n → par' w ≠ -1 → 0 ≤ tv' w ∧ (0 < tv' w ∨ ∃ l, UpW par' s l ∧ w ∈ l)) ∧
    (Phi3 n m fr to nxt' < Phi3 n m fr to nxt ∨ (nxt' = nxt ∧ par' s ≠ -1 ∧ ∃ l, UpW par' s l ∧ ∃ a, a ∈ l ∧ par' a ≠ -1 ∧ tv' a ≤ 0))
  refine ⟨fun p q => ∃ k, J p q k, rk J, rk_wf J, ⟨_, room, nxt, via, par, _, rfl, F, P2, I2, ?_, .inr ⟨rfl, hps, l, hU, a1, ha1, hpa1, ?_⟩⟩, ?_⟩
  · intro w hw hp
    have := hpos w hw hp
    unfold addT
    by_cases h : w ∈ edges par l
    · rw [if_pos h]
      have h := (mem_e w).1 h
      have := hmin w h.1 hp
      exact ⟨by omega, .inr ⟨l, hU, h.1⟩⟩
    · rw [if_neg h]; exact ⟨by omega, .inl this⟩
  · unfold addT
    rw [if_pos ((mem_e a1).2 ⟨ha1, hpa1⟩)]; omega
  clear P2 I2 F
  intro q hJ
  obtain ⟨room', nxt', via', par', tv', hk, F, P2, I2, hpt, hpr⟩ := mu_spec hJ
  generalize hkk : mu J ((), q) = km at *
  have hphi : 0 ≤ Phi3 n m fr to nxt' := sumN_nonneg fun u hu => by have := I2.nb u hu; omega
  have hltf : ∀ z : Nat, (z : Int) < Phi3 n m fr to nxt' → z < mu J ((), q) := fun z h => by rw [hkk, hk]; omega
  clear hJ
  obtain ⟨vv, vl, vn, k5, _, _, _⟩ := P2.ex
  obtain ⟨vto, vroom, vout, outs, q4, _, _, _, _⟩ := P2.net.ex
  refine ptrP_mk (ptrP_mk ⟨_, k5.ld rfl, _, k5.ld rfl, ptrP_mk ⟨_, q4.ld rfl, ?_⟩⟩)
  refine (Least_T P2.fo_ s).mono ?_
  rintro _ g31 ⟨kp, Q, a2, m2, c2, rfl, LS⟩
  refine rt_ret ⟨_, _, _, rfl, ?_⟩
  obtain ⟨F1, P3⟩ := P2.kp kp Q
  have F := F.trans (F1.mono (by simp))
  clear kp Q k5 q4
  cases LS with
  | bad hbad =>
    refine ifP_of (fun _ => ?_) (fun h => absurd (by simpa using h) hbad)
    have hroot : par' s = -1 := by
      rw [childC_nat hs] at hbad
      apply Classical.byContradiction
      intro h; rw [if_neg h] at hbad; exact hbad rfl
    refine ⟨E2, room', nxt', via', par', tv', m0, rfl, F, P3, I2, fun w hw hp => ?_, hm0, S.out, ?_⟩
    · rcases (hpt w hw hp).2 with h | ⟨l', h1, h2⟩
      · exact h
      · rw [h1.uniq (.root hroot), List.mem_singleton] at h2
        subst h2
        exact absurd hroot hp
    · rcases hpr with h | ⟨_, h, _⟩
      · exact h
      · exact absurd hroot h
  | @ok A B a2 r h1 h2 h3 h4 =>
    rw [Int.toNat_natCast] at h2
    refine ifP_of (fun h => by simp at h) (fun _ => ?_)
    have hlast2 : (A ++ a2 :: B ++ [r]).getLast? = some r := List.getLast?_concat
    have hprr : par' r = -1 := by
      obtain ⟨r', e1, e2⟩ := h2.last
      rw [hlast2] at e1; cases e1; exact e2
    have hpa : par' a2 ≠ -1 := by
      obtain ⟨y, ys, e⟩ : ∃ y ys, B ++ [r] = y :: ys := by cases B <;> exact ⟨_, _, rfl⟩
      have := h2.nx_par (A := A) (B := ys) (a := a2) (y := y) (by rw [List.append_assoc, List.cons_append, e])
      omega
    have ha2n : a2 < n := (I2.up_lev hn h2 hs a2 (by simp)).2
    have hmin2 : ∀ w, w ∈ A ++ a2 :: B ++ [r] → par' w ≠ -1 → tv' a2 ≤ tv' w := by
      intro w hw hp
      simp only [List.mem_append, List.mem_cons, List.mem_nil_iff, or_false] at hw
      rcases hw with (hw | rfl | hw) | rfl
      · exact h3 w hw
      · exact Int.le_refl _
      · have := h4 w hw; omega
      · exact absurd hprr hp
    refine ifP_of (fun hp0 => ?_) (fun hp0 => ?_)
    · have hp0 := of_decide_eq_true hp0
      refine ⟨E2, room', nxt', via', par', tv', m0, rfl, F, P3, I2, fun w hw hp => ?_, hm0, S.out, ?_⟩
      · rcases (hpt w hw hp).2 with h | ⟨l', e1, e2⟩
        · exact h
        · rw [e1.uniq h2] at e2
          have := hmin2 w e2 hp
          omega
      · rcases hpr with h | ⟨_, _, l', e1, a, e2, e3, e4⟩
        · exact h
        · rw [e1.uniq h2] at e2
          have := hmin2 a e2 e3
          omega
    · have hp0 := of_decide_eq_false hp0
      have hz : tv' a2 = 0 := by have := (hpt a2 ha2n hpa).1; omega
      obtain ⟨b, g⟩ := I2.hgp ha2n hpa
      refine (drop_T P3 I2 hc m1 ha2n g).mono ?_
      rintro _ g36 ⟨rfl, F2, P4⟩
      refine rt_ret ⟨rfl, ?_⟩
      have I4 := I2.drop ha2n g
      obtain ⟨ln, hln, hget⟩ := g.nx
      have hlt2 := (List.getElem?_eq_some_iff.1 hget).1
      have hlen := arcsL_length (fr := fr) (to := to) (v := a2) (i := m)
      obtain ⟨vv, vl, vn, k5, k6, k7, k8⟩ := P4.ex
      refine ptrP_mk ⟨_, k5.ld rfl, k8.rdI ha2n ?_⟩
      rw [hln, i64_inc (by omega)]
      refine k8.setI ha2n ?_
      intro g42 F3 k8
      have N := P4.net
      have Fo := P4.fo_.of F3 (by rw [P4.o9]; simp) (by rw [P4.o11]; simp)
      have N := N.fm F3 (by simp <;> omega)
      have k5 := k5.fm F3 (by simp <;> omega)
      have k6 := k6.fm F3 (by simp <;> omega)
      have k7 := k7.fm F3 (by simp <;> omega)
      have I5 := I4.adv (v := a2) upd_at g.l1 g.l4 (y := ((ln + 1 : Nat) : Int)) (by omega) (by omega)
      have e3 := Phi3_upd (n := n) (m := m) (fr := fr) (to := to) (nxt := nxt') (y := ((ln + 1 : Nat) : Int)) ha2n
      rw [hln] at e3
      have hphi2 : 0 ≤ Phi3 n m fr to (upd nxt' a2 ((ln + 1 : Nat) : Int)) := sumN_nonneg fun u hu => by have := I5.nb u hu; omega
      refine mu_next (I := J) (k := (Phi3 n m fr to (upd nxt' a2 ((ln + 1 : Nat) : Int))).toNat) ⟨_, _, _, _, _, rfl, (F.trans (F2.mono (by simp))).trans (F3.mono (by simp)), ⟨N, ⟨vv, vl, vn, k5, k6, k7, k8⟩, Fo, P4.o9, P4.o11⟩, I5, ?_, .inl ?_⟩ (hltf _ (by omega))
      · intro w hw hp
        have ne : w ≠ a2 := by
          rintro rfl
          rw [upd_at] at hp; exact hp rfl
        rw [upd_ne ne] at hp ⊢
        refine ⟨(hpt w hw hp).1, ?_⟩
        rcases (hpt w hw hp).2 with h | ⟨l', e1, e2⟩
        · exact .inl h
        · rw [e1.uniq h2] at e2
          simp only [List.mem_append, List.mem_cons, List.mem_nil_iff, or_false] at e2
          rcases e2 with (e2 | e2 | e2) | e2
          · refine .inr ⟨A ++ [a2], h2.cutA (B := B ++ [r]) (by simp) ?_, List.mem_append_left _ e2⟩
            intro hm
            have hnd := h2.nodup P2.fo_.fst hs
            rw [List.append_assoc, List.nodup_append] at hnd
            exact hnd.2.2 a2 hm a2 (by simp) rfl
          · exact absurd e2 ne
          · have := h4 w e2
            exact .inl (by omega)
          · subst e2; exact absurd hprr hp
      · rcases hpr with h | ⟨h, _⟩
        · omega
        · subst h; omega
end

end Go.Proofs.Ythglkcpoofenbaa

/-! Trees: phase, fill. -/
namespace Go.Proofs.Ythglkcpoofenbaa
open Go
set_option linter.unusedVariables false
set_option linter.unusedSimpArgs false

theorem Fm.new2 {M : List Nat} {own : Own} {h h' : H} {b c i j : Nat} (x : Ext h h') (hb : h b = none) (hc : h c = none) : Fm M own h (own1 (own1 own b i) c j) h' :=
  ⟨fun k o e _ => x k o e, fun k o e => ⟨⟨o, x k o e⟩, by
    rw [own1_ne (by rintro rfl; rw [hc] at e; cases e), own1_ne (by rintro rfl; rw [hb] at e; cases e)]⟩⟩
theorem cntN_neg {n w : Nat} {lev : Nat → Int} {x : Int} (hw : w < n) (h : 0 ≤ lev w) (hx : x < 0) : cntN n (upd lev w x) = cntN n lev + 1 := by
  unfold cntN
  have e : (fun v => if upd lev w x v < 0 then (1 : Int) else 0) = upd (fun v => if lev v < 0 then 1 else 0) w 1 := by
    funext v
    unfold upd
    by_cases h1 : v = w
    · rw [if_pos h1, if_pos h1, if_pos hx]
    · rw [if_neg h1, if_neg h1]
  rw [e, sumN_upd hw, if_neg (by omega)]; omega
theorem cntN_le {n : Nat} {lev : Nat → Int} : cntN n lev ≤ n := by
  have := sumN_bd (k := n) (c := 1) (f := fun v => if lev v < 0 then (1 : Int) else 0) fun u _ => by split <;> omega
  unfold cntN; omega

section
variable {n m s t : Nat} {fr to : Nat → Nat} {cap lev0 lev E room nxt via par tv : Nat → Int}
theorem TrI.rt_alive (I : TrI n m fr to cap s t lev0 lev E room nxt via par tv) (hn : ∀ i, i < m → fr i < n ∧ to i < n) {w : Nat} {l : List Nat} (h : UpW par w l) : w < n → ∀ r, l.getLast? = some r →
    r = w ∨ ∃ u a, Hg n m fr to lev0 lev E nxt via par tv u a ∧ hdA fr to a = r := by
  induction h with
  | @root w h => intro hw r hr; exact .inl (by simpa using hr.symm)
  | @step v u l h k ih =>
    intro hv r hr
    obtain ⟨a, g⟩ := I.hgp hv (by rw [h]; omega)
    have e : u = hdA fr to a := by have := g.par_; omega
    have hu : u < n := by rw [e]; exact hd_lt hn g.am
    have hlast : l.getLast? = some r := by
      obtain ⟨r', h3, _⟩ := k.last
      rw [List.getLast?_cons, h3] at hr
      rw [h3]
      simpa using hr
    rcases ih hu r hlast with h | h
    · subst h
      exact .inr ⟨v, a, g, e.symm⟩
    · exact .inr h
theorem TrI.out_eq (I : TrI n m fr to cap s t lev0 lev E room nxt via par tv) (h : ∀ v, v < n → via v = -1) (u : Nat) : OutF m fr to (onR room) u = OutF m fr to (onR E) u := by
  refine sumN_congr fun i hi => ?_
  have : onR room i = onR E i := by
    unfold onR
    exact I.eq _ (by omega) fun v hv => by rw [h v hv]; omega
  rw [this]
/-- One step on, where what was there is done with. -/
theorem DdP.adv (d : DdP n m fr to t lev0 E nxt) (hn : ∀ i, i < m → fr i < n ∧ to i < n) {v l a : Nat} (hv : v < n) (hl : nxt v = l) (hget : (arcsL fr to m v)[l]? = some a) (hne : hdA fr to a ≠ v)
    (hd : hdA fr to a ≠ t ∧ nxt (hdA fr to a) = (arcsL fr to m (hdA fr to a)).length) : DdP n m fr to t lev0 E (upd nxt v ((l + 1 : Nat) : Int)) := by
  have hla := (List.getElem?_eq_some_iff.1 hget).1
  have hgl := (List.getElem?_eq_some_iff.1 hget).2
  have len : ∀ w, nxt w = (arcsL fr to m w).length → upd nxt v ((l + 1 : Nat) : Int) w = (arcsL fr to m w).length := by
    intro w e
    by_cases e2 : w = v
    · subst e2; omega
    · rw [upd_ne e2]; exact e
  intro u hu b hb hr hlb
  by_cases e : u = v
  · subst e
    rw [upd_at, Int.toNat_natCast, List.take_succ_eq_append_getElem hla, hgl] at hb
    rcases List.mem_append.1 hb with hb | hb
    · obtain ⟨h1, h2⟩ := d u hu b (by rw [hl, Int.toNat_natCast]; exact hb) hr hlb
      exact ⟨h1, len _ h2⟩
    · have : b = a := by rw [List.mem_singleton] at hb; exact hb
      subst this
      exact ⟨hd.1, len _ hd.2⟩
  · rw [upd_ne e] at hb
    obtain ⟨h1, h2⟩ := d u hu b hb hr hlb
    exact ⟨h1, len _ h2⟩
end

/-- How far a phase has come. -/
def PhT (n m : Nat) (fr to : Nat → Nat) (lev nxt via : Nat → Int) : N4 := ((n - cntN n lev).toNat, (Phi3 n m fr to nxt).toNat, (cntN n via).toNat, 0)

section
variable {own : Own} {h : H} {bt bn n m s t : Nat} {fr to : Nat → Nat} {cap lev0 room0 : Nat → Int}
theorem phase_T (hc : ∀ i, i < m → cap i ≤ 1048576) (hn : ∀ i, i < m → fr i < n ∧ to i < n) (m1 : m ≤ 4096) (n1 : n ≤ 1024) (hs : s < n) (ht : t < n) (hst : s ≠ t) {x1 x2 x4 vl : Value}
    (N : Net own h bn n m fr to s t room0) (B : B1 own h 5 bt [.pointer (some (bk bn)), x1, x2, vl, x4]) (k7 : S1 own h 7 vl (ints n lev0)) (F0 : FlS n m fr to cap s t room0) (L : LevP n m fr to room0 s lev0) (hlt : 0 ≤ lev0 t) :
    T Try.prog F.maxflow_trees_phase [.pointer (some (bk bt))] h fun r h' => ∃ own' room' x1 x2 x3 x4, r = .ret (.tuple ⟨[]⟩) ∧ Fm [2, 5, 6, 7, 8, 9, 11] own h own' h' ∧ Net own' h' bn n m fr to s t room' ∧
      B1 own' h' 5 bt [.pointer (some (bk bn)), x1, x2, x3, x4] ∧ FlS n m fr to cap s t room' ∧ OutF m fr to (onR room0) s < OutF m fr to (onR room') s := by
  refine E_maxflow_trees_phase ?_
  unfold B_maxflow_trees_phase
  obtain ⟨vto, vroom, vout, outs, q4, q1, q2, q3, qa⟩ := N.ex
  refine ptrP_mk ⟨_, B.ld rfl, ptrP_mk ⟨_, q4.ld rfl, q3.len (va_length _ _) fun _ _ => ?_⟩⟩
  clear q4 q1 q2 q3 qa
  refine (New_T h n).mono ?_
  rintro _ g9 ⟨x9, hN⟩
  rcases hN with ⟨hbad, _⟩ | ⟨_, _, bf, bg, rfl, hbf, hbg, Fo⟩
  · omega
  rw [Int.toNat_natCast] at Fo
  refine rt_ret ⟨_, _, rfl, ?_⟩
  have nfg := Fo.some2.2
  have F1 : Fm [] own h (own1 (own1 own bf 9) bg 11) g9 := Fm.new2 x9 hbf hbg
  have o9 : own1 (own1 own bf 9) bg 11 bf = 9 := by rw [own1_ne nfg, own1_at]
  have o11 : own1 (own1 own bf 9) bg 11 bg = 11 := own1_at
  have N := N.fm F1 (by simp <;> omega)
  have B := B.fm F1 (by simp <;> omega)
  have k7 := k7.fm F1 (by simp <;> omega)
  have F := F1.mono (M' := [2, 5, 6, 7, 8, 9, 11]) (by simp)
  generalize own1 (own1 own bf 9) bg 11 = own2 at *
  clear F1 hbf hbg x9
  refine ptrP_mk (oneP_ptr (B.st (by simp) ?_))
  intro g13 F1 B
  simp only [List.set] at B
  have Fo := Fo.of F1 (by rw [o9]; simp) (by rw [o11]; simp)
  have N := N.fm F1 (by simp <;> omega)
  have k7 := k7.fm F1 (by simp <;> omega)
  have F := F.trans (F1.mono (by simp))
  clear F1
  refine mk_ints 6 (by omega) (by omega) ?_
  intro b14 g15 hb14 x15 S6
  rw [Int.toNat_natCast]
  have k6 := S6 own2
  have F1 : Fm [] own2 g13 (own1 own2 b14 6) g15 := Fm.new x15 hb14
  have Fo' := Fo.of F1 (by simp) (by simp)
  have o9 := (F1.stay _ _ Fo.some2.1.choose_spec).2.trans o9
  have o11 := (F1.stay _ _ Fo.some_.choose_spec).2.trans o11
  clear Fo
  have Fo := Fo'
  clear Fo'
  have N := N.fm F1 (by simp <;> omega)
  have k7 := k7.fm F1 (by simp <;> omega)
  have B := B.fm F1 (by simp <;> omega)
  have F := F.trans (F1.mono (by simp))
  clear F1 S6
  generalize own1 own2 b14 6 = own3 at *
  refine ptrP_mk (B.st (by simp) ?_)
  intro g17 F1 B
  simp only [List.set] at B
  have Fo := Fo.of F1 (by rw [o9]; simp) (by rw [o11]; simp)
  have N := N.fm F1 (by simp <;> omega)
  have k7 := k7.fm F1 (by simp <;> omega)
  have k6 := k6.fm F1 (by simp <;> omega)
  have F := F.trans (F1.mono (by simp))
  clear F1
  refine mk_ints 8 (by omega) (by omega) ?_
  intro b18 g19 hb18 x19 S8
  have k8 := S8 own3
  have F1 : Fm [] own3 g17 (own1 own3 b18 8) g19 := Fm.new x19 hb18
  have Fo' := Fo.of F1 (by simp) (by simp)
  have o9 := (F1.stay _ _ Fo.some2.1.choose_spec).2.trans o9
  have o11 := (F1.stay _ _ Fo.some_.choose_spec).2.trans o11
  clear Fo
  have Fo := Fo'
  clear Fo'
  have N := N.fm F1 (by simp <;> omega)
  have k7 := k7.fm F1 (by simp <;> omega)
  have B := B.fm F1 (by simp <;> omega)
  have k6 := k6.fm F1 (by simp <;> omega)
  have F := F.trans (F1.mono (by simp))
  clear F1 S8
  generalize own1 own3 b18 8 = own4 at *
  refine ptrP_mk (B.st (by simp) ?_)
  intro g21 F1 B
  simp only [List.set] at B
  have Fo := Fo.of F1 (by rw [o9]; simp) (by rw [o11]; simp)
  have N := N.fm F1 (by simp <;> omega)
  have k7 := k7.fm F1 (by simp <;> omega)
  have k6 := k6.fm F1 (by simp <;> omega)
  have k8 := k8.fm F1 (by simp <;> omega)
  have F := F.trans (F1.mono (by simp))
  clear F1
  refine ptrP_mk ⟨_, B.ld rfl, k6.len (ints_length _ _) fun _ _ => ?_⟩
  -- via is -1
  let I27 : (Int × Unit) → H → Nat → Prop := fun p q k => ∃ i : Nat, p.1 = i ∧ i ≤ n ∧ k = n - i ∧ Fm [2, 5, 6, 7, 8, 9, 11] own h own4 q ∧ Net own4 q bn n m fr to s t room0 ∧
    B1 own4 q 5 bt [.pointer (some (bk bn)), fo bf, .slice (some (bk b14)) n n, vl, .slice (some (bk b18)) n n] ∧ S1 own4 q 6 (.slice (some (bk b14)) n n) (ints n fun v => if v < i then -1 else 0) ∧ S1 own4 q 7 vl (ints n lev0) ∧
    S1 own4 q 8 (.slice (some (bk b18)) n n) (ints n fun _ => 0) ∧ Forest q bf bg n (fun _ => -1) (fun _ => 0)
  refine ⟨fun p q => ∃ k, I27 p q k, rk I27, rk_wf I27, ⟨_, 0, rfl, by omega, rfl, F, N, B, by simpa using k6, k7, k8, Fo⟩, ?_⟩
  clear F N B k6 k7 k8 Fo
  intro p q hI
  obtain ⟨i, e1, hi, hk, F, N, B, k6, k7, k8, Fo⟩ := mu_spec hI
  generalize hkk : mu I27 ((p, ()), q) = km at *
  change p = (i : Int) at e1
  subst e1
  refine ifP_of (fun h1 => ?_) (fun h1 => ?_)
  · have him : i < n := by have := of_decide_eq_true h1; omega
    have hlt : n - (i + 1) < mu I27 (((i : Int), ()), q) := by rw [hkk, hk]; omega
    clear hI
    refine ptrP_mk ⟨_, B.ld rfl, k6.setI him ?_⟩
    intro g F1 k6
    have Fo := Fo.of F1 (by rw [o9]; simp) (by rw [o11]; simp)
    have N := N.fm F1 (by simp <;> omega)
    have B := B.fm F1 (by simp <;> omega)
    have k7 := k7.fm F1 (by simp <;> omega)
    have k8 := k8.fm F1 (by simp <;> omega)
    rw [i64_inc (by omega)]
    exact mu_next (I := I27) (k := n - (i + 1)) ⟨i + 1, rfl, him, rfl, F.trans (F1.mono (by simp)), N, B, by rw [upd_lt]; exact k6, k7, k8, Fo⟩ hlt
  have : i = n := by have := of_decide_eq_false h1; omega
  subst this
  clear hI hkk hk h1 hi
  have hvia : ints i (fun v => if v < i then (-1 : Int) else 0) = ints i fun _ => -1 := ints_ext fun v hv => if_pos hv
  rw [hvia] at k6
  have P : Tr own4 q bt bn bf bg i m fr to s t room0 lev0 (fun _ => 0) (fun _ => -1) (fun _ => -1) (fun _ => 0) := ⟨N, ⟨_, _, _, B, k6, k7, k8⟩, Fo, o9, o11⟩
  have I0 : TrI i m fr to cap s t lev0 lev0 room0 room0 (fun _ => 0) (fun _ => -1) (fun _ => -1) (fun _ => 0) :=
    ⟨F0.rm, F0.rm, fun _ _ => .inl ⟨rfl, rfl⟩, fun _ _ _ => rfl, fun u _ => ⟨Int.le_refl _, by omega⟩, fun _ _ => .inl rfl⟩
  have toB : ∀ {q : H} {room lev nxt via par tv : Nat → Int}, Tr own4 q bt bn bf bg i m fr to s t room lev nxt via par tv → ∃ x1 x2 x3 x4, B1 own4 q 5 bt [.pointer (some (bk bn)), x1, x2, x3, x4] := by
    intro q room lev nxt via par tv P
    obtain ⟨vv, vl, vn, k5, _⟩ := P.ex
    exact ⟨_, _, _, _, k5⟩
  let J : Unit → H → N4 → Prop := fun _ q al => ∃ lev E room nxt via par tv, al = PhT i m fr to lev nxt via ∧ Fm [2, 5, 6, 7, 8, 9, 11] own h own4 q ∧ Tr own4 q bt bn bf bg i m fr to s t room lev nxt via par tv ∧
    TrI i m fr to cap s t lev0 lev E room nxt via par tv ∧ (∀ v, v < i → par v ≠ -1 → 0 < tv v) ∧ (∀ u, u < i → u ≠ s → u ≠ t → OutF m fr to (onR E) u = 0) ∧
    (OutF m fr to (onR room0) s < OutF m fr to (onR E) s ∨ (E = room0 ∧ DdP i m fr to t lev0 room0 nxt))
  refine ⟨fun p q => ∃ k, J p q k, rkW W4 J, rkW_wf W4 J, ⟨_, lev0, room0, room0, _, _, _, _, rfl, F, P, I0, fun v _ h => absurd rfl h, F0.cons, .inr ⟨rfl, fun u _ a ha => by simp at ha⟩⟩, ?_⟩
  clear F N B k6 k7 k8 Fo P I0 hvia
  intro q hJ
  obtain ⟨al, ⟨lev, E, room, nxt, via, par, tv, hal, F, P, I, hpos, hcons, hpg⟩, hmin⟩ := muW (W := W4) hJ
  clear hJ
  obtain ⟨vv, vl, vn, k5, _, _, _⟩ := P.ex
  obtain ⟨vto, vroom, vout, outs, q4, _, _, _, _⟩ := P.net.ex
  refine ptrP_mk (ptrP_mk ⟨_, k5.ld rfl, _, k5.ld rfl, ptrP_mk ⟨_, q4.ld rfl, ?_⟩⟩)
  refine (Root_T P.fo_ s).mono ?_
  rintro _ g45 ⟨kp, Q, hR⟩
  rcases hR with ⟨hno, _⟩ | ⟨s', r, hs', _, hR, hr, rfl⟩
  · exact absurd (isN_of hs) hno
  have : s' = s := by omega
  subst this
  refine rt_ret ⟨_, _, rfl, ?_⟩
  obtain ⟨F1, P⟩ := P.kp kp Q
  have F := F.trans (F1.mono (by simp))
  clear F1 kp Q k5 q4
  obtain ⟨vv, vl, vn, k5, _, _, _⟩ := P.ex
  obtain ⟨vto, vroom, vout, outs, q4, _, _, _, _⟩ := P.net.ex
  have hphi : ∀ {nxt : Nat → Int}, (∀ u, u < i → 0 ≤ nxt u ∧ nxt u ≤ (arcsL fr to m u).length) → 0 ≤ Phi3 i m fr to nxt := fun h => sumN_nonneg fun u hu => by have := h u hu; omega
  refine ptrP_mk ⟨_, k5.ld rfl, ptrP_mk ⟨_, q4.ld rfl, ?_⟩⟩
  refine ifP_of (fun h1 => ?_) (fun h1 => ?_)
  · -- push
    have h1 : r = t := by have := of_decide_eq_true h1; omega
    subst h1
    refine (push_T' P I hc hn m1 n1 hs hst hpos hR).mono ?_
    rintro _ g53 ⟨E', room', nxt', via', par', tv', x, rfl, F1, P2, I2, hpos2, hx, hout, hph⟩
    refine rt_ret ⟨rfl, ?_⟩
    have hlt : r4 (PhT i m fr to lev nxt' via') al := by
      rw [hal]
      have := hphi I2.nb
      refine .inr ⟨rfl, .inl ?_⟩
      show (Phi3 i m fr to nxt').toNat < (Phi3 i m fr to nxt).toNat
      omega
    have hos := hout s'
    rw [if_pos rfl, if_neg (fun h => hst h.symm)] at hos
    refine muW_next hmin (a := PhT i m fr to lev nxt' via') ⟨lev, E', room', nxt', via', par', tv', rfl, F.trans (F1.mono (by simp)), P2, I2, hpos2, fun u hu h1 h2 => ?_, .inl ?_⟩ hlt
    · rw [hout, hcons u hu h1 h2, if_neg (fun h => h1 h.symm), if_neg (fun h => h2 h.symm)]; rfl
    · rcases hpg with h | ⟨h, _⟩
      · omega
      · rw [← h]; omega
  have hrt : r ≠ t := by have := of_decide_eq_false h1; omega
  have hpr : par r = -1 := hR.root
  have hvr : via r = -1 := by
    rcases I.lk r hr with h | ⟨a, g⟩
    · exact h.1
    · exact absurd hpr g.par_ne
  have hal_r : lev r = lev0 r ∧ 0 ≤ lev0 r := by
    obtain ⟨l, hl1, hl2⟩ := hR
    rcases I.rt_alive hn hl1 hs r hl2 with h | ⟨u, a, g, h⟩
    · subst h
      rcases I.al r hs with h | h
      · exact ⟨h, by rw [L.src]; exact Int.le_refl _⟩
      · exact absurd rfl h.2.2.2
    · subst h
      have h2 := g.l3
      have h3 := g.l4
      exact ⟨g.l2, by omega⟩
  refine (grow_T P I hc hn m1 n1 L.bd hr hvr hpr hal_r.1 hal_r.2).mono ?_
  rintro _ g57 ⟨b, y, via', par', tv', rfl, F1, P2, I2, hy1, hy2, hdd, hcase⟩
  have F := F.trans (F1.mono (by simp))
  refine rt_ret ⟨b, rfl, ?_⟩
  have hp3 := Phi3_upd (n := i) (m := m) (fr := fr) (to := to) (nxt := nxt) (y := y) hr
  have hp3n := hphi I2.nb
  have hpg2 : OutF m fr to (onR room0) s' < OutF m fr to (onR E) s' ∨ (E = room0 ∧ DdP i m fr to t lev0 room0 (upd nxt r y)) := by
    rcases hpg with h | ⟨h, d⟩
    · exact .inl h
    · subst h; exact .inr ⟨rfl, hdd d⟩
  rcases hcase with ⟨rfl, rfl, rfl, rfl, hylen⟩ | ⟨rfl, a, hEa, rfl, rfl, rfl⟩
  rotate_left
  · -- grown
    have hcv : cntN i (upd via r (a : Int)) = cntN i via - 1 := cntN_upd hr (by omega) (by omega)
    have hcn := cntN_nn (n := i) (lev := upd via r (a : Int))
    have hlt : r4 (PhT i m fr to lev (upd nxt r y) (upd via r (a : Int))) al := by
      rw [hal]
      by_cases e : y = nxt r
      · rw [e, upd_self]
        refine .inr ⟨rfl, .inr ⟨rfl, .inl ?_⟩⟩
        show (cntN i (upd via r (a : Int))).toNat < (cntN i via).toNat
        omega
      · refine .inr ⟨rfl, .inl ?_⟩
        show (Phi3 i m fr to (upd nxt r y)).toNat < (Phi3 i m fr to nxt).toNat
        omega
    refine muW_next hmin (a := PhT i m fr to lev (upd nxt r y) (upd via r (a : Int))) ⟨lev, E, room, _, _, _, _, rfl, F, P2, I2, fun v hv hp => ?_, hcons, hpg2⟩ hlt
    by_cases e : v = r
    · subst e; rw [upd_at]; exact hEa
    · rw [upd_ne e] at hp ⊢; exact hpos v hv hp
  -- not grown
  clear k5 q4
  obtain ⟨vv, vl, vn, k5, k6, k7, k8⟩ := P2.ex
  obtain ⟨vto, vroom, vout, outs, q4, _, _, _, _⟩ := P2.net.ex
  refine ifP_of (fun h => by cases h) (fun _ => ?_)
  refine ptrP_mk ⟨_, k5.ld rfl, ptrP_mk ⟨_, q4.ld rfl, ?_⟩⟩
  refine ifP_of (fun h2 => ?_) (fun h2 => ?_)
  · -- the source: all is dropped
    have h2 : r = s' := by have := of_decide_eq_true h2; omega
    subst h2
    refine ptrP_mk ⟨_, k5.ld rfl, k6.len (ints_length _ _) fun _ _ => ?_⟩
    have hval : OutF m fr to (onR room0) r < OutF m fr to (onR E) r := by
      rcases hpg2 with h | ⟨h, d⟩
      · exact h
      · exact (dead_no L hn ht hlt d ⟨hst, by rw [upd_at]; exact hylen⟩).elim
    clear k5 k6 k7 k8 q4
    let I68 : (Int × Unit) → H → Nat → Prop := fun p q k => ∃ (j : Nat) (room via par tv : Nat → Int), p.1 = j ∧ j ≤ i ∧ k = i - j ∧ Fm [2, 5, 6, 7, 8, 9, 11] own h own4 q ∧
      Tr own4 q bt bn bf bg i m fr to r t room lev (upd nxt r y) via par tv ∧ TrI i m fr to cap r t lev0 lev E room (upd nxt r y) via par tv ∧ ∀ u, u < j → via u = -1
    refine ⟨fun p q => ∃ k, I68 p q k, rk I68, rk_wf I68, ⟨_, 0, room, _, _, _, rfl, by omega, rfl, F, P2, I2, fun u hu => by omega⟩, ?_⟩
    clear F P2 I2 P I hmin
    intro p q hI
    obtain ⟨j, room, via, par, tv, e1, hj, hk, F, P, I, hno⟩ := mu_spec hI
    generalize hkk : mu I68 ((p, ()), q) = km at *
    change p = (j : Int) at e1
    subst e1
    have hltf : j < i → i - (j + 1) < mu I68 (((j : Int), ()), q) := fun h => by rw [hkk, hk]; omega
    clear hI
    refine ifP_of (fun h3 => ?_) (fun h3 => ?_)
    · have hji : j < i := by have := of_decide_eq_true h3; omega
      obtain ⟨vv, vl, vn, k5, k6, k7, k8⟩ := P.ex
      rw [i64_inc (by omega)]
      refine ptrP_mk ⟨_, k5.ld rfl, k6.rdI hji ?_⟩
      refine ifP_of (fun h4 => ?_) (fun h4 => ?_)
      · have h4 := of_decide_eq_true h4
        obtain ⟨a, g⟩ := I.hg hji (by omega)
        refine (drop_T P I hc m1 hji g).mono ?_
        rintro _ g77 ⟨rfl, F2, P2⟩
        refine rt_ret ⟨rfl, ?_⟩
        refine mu_next (I := I68) (k := i - (j + 1)) ⟨j + 1, _, _, _, _, rfl, hji, rfl, F.trans (F2.mono (by simp)), P2, I.drop hji g, fun u hu => ?_⟩ (hltf hji)
        by_cases e : u = j
        · subst e; exact upd_at
        · rw [upd_ne e]; exact hno u (by omega)
      · have h4 := of_decide_eq_false h4
        refine mu_next (I := I68) (k := i - (j + 1)) ⟨j + 1, _, _, _, _, rfl, hji, rfl, F, P, I, fun u hu => ?_⟩ (hltf hji)
        by_cases e : u = j
        · subst e
          rcases I.lk u hji with h | ⟨a, g⟩
          · exact h.1
          · have := g.via_; omega
        · exact hno u (by omega)
    · have : j = i := by have := of_decide_eq_false h3; omega
      subst this
      obtain ⟨x1, x2, x3, x4, k5⟩ := toB P
      have oe := I.out_eq hno
      exact ⟨own4, room, x1, x2, x3, x4, rfl, F, P.net, k5, ⟨I.rmR, fun v hv h1 h2 => by rw [oe]; exact hcons v hv h1 h2⟩, by rw [oe]; exact hval⟩
  · -- a dead end
    have h2 : r ≠ s' := by have := of_decide_eq_false h2; omega
    refine ptrP_mk ⟨_, k5.ld rfl, k7.setI hr ?_⟩
    intro g83 F2 k7
    have N := P2.net
    have Fo := P2.fo_.of F2 (by rw [P2.o9]; simp) (by rw [P2.o11]; simp)
    have N := N.fm F2 (by simp <;> omega)
    have k5 := k5.fm F2 (by simp <;> omega)
    have k6 := k6.fm F2 (by simp <;> omega)
    have k8 := k8.fm F2 (by simp <;> omega)
    have F := F.trans (F2.mono (by simp))
    refine ptrP_mk ⟨_, k5.ld rfl, k6.len (ints_length _ _) fun _ _ => ?_⟩
    have P3 : Tr own4 g83 bt bn bf bg i m fr to s' t room (upd lev r (-1)) (upd nxt r y) via' par' tv' := ⟨N, ⟨_, _, _, k5, k6, k7, k8⟩, Fo, P2.o9, P2.o11⟩
    let I89 : (Int × Unit) → H → Nat → Prop := fun p q k => ∃ (j : Nat) (room nxt via par tv : Nat → Int), p.1 = j ∧ j ≤ i ∧ k = i - j ∧ Fm [2, 5, 6, 7, 8, 9, 11] own h own4 q ∧ B1 own4 q 5 bt [.pointer (some (bk bn)), fo bf, vv, vl, vn] ∧
      Tr own4 q bt bn bf bg i m fr to s' t room (upd lev r (-1)) nxt via par tv ∧ TrI i m fr to cap s' t lev0 lev E room nxt via par tv ∧ (∀ u, u < j → par u ≠ r) ∧ par r = -1 ∧ via r = -1 ∧ nxt r = (arcsL fr to m r).length ∧
      (∀ v, v < i → par v ≠ -1 → 0 < tv v) ∧ (OutF m fr to (onR room0) s' < OutF m fr to (onR E) s' ∨ (E = room0 ∧ DdP i m fr to t lev0 room0 nxt))
    refine ⟨fun p q => ∃ k, I89 p q k, rk I89, rk_wf I89, ⟨_, 0, room, _, _, _, _, rfl, by omega, rfl, F, k5, P3, I2, fun u hu => by omega, hpr, hvr, by rw [upd_at]; exact hylen, hpos, hpg2⟩, ?_⟩
    clear F P2 I2 P I P3 k6 k7 k8 Fo N q4 hpos hpg2 hpg k5
    intro p q hI
    obtain ⟨j, room, nxt, via, par, tv, e1, hj, hk, F, k5, P, I, hno, hpr, hvr, hnr, hpos, hpg⟩ := mu_spec hI
    generalize hkk : mu I89 ((p, ()), q) = km at *
    change p = (j : Int) at e1
    subst e1
    have hltf : j < i → i - (j + 1) < mu I89 (((j : Int), ()), q) := fun h => by rw [hkk, hk]; omega
    clear hI
    obtain ⟨zv, zl, zn, z5, z6, z7, z8⟩ := P.ex
    have := z5.uniq k5
    injection this with _ this
    injection this with _ this
    injection this with e1 this
    subst e1
    clear this
    obtain ⟨vto, vroom, vout, outs, q4, q1, _, _, _⟩ := P.net.ex
    refine ifP_of (fun h3 => ?_) (fun h3 => ?_)
    · have hji : j < i := by have := of_decide_eq_true h3; omega
      rw [i64_inc (by omega)]
      refine z6.rdI hji ?_
      have skip : par j ≠ r → (∃ k, I89 (((j + 1 : Nat) : Int), ()) q k) ∧ rk I89 ((((j + 1 : Nat) : Int), ()), q) (((j : Int), ()), q) := by
        intro hne
        refine mu_next (I := I89) (k := i - (j + 1)) ⟨j + 1, room, nxt, via, par, tv, rfl, hji, rfl, F, k5, P, I, fun u hu => ?_, hpr, hvr, hnr, hpos, hpg⟩ (hltf hji)
        by_cases e : u = j
        · subst e; exact hne
        · exact hno u (by omega)
      refine ifP_of (fun h4 => ?_) (fun h4 => ?_)
      rotate_left
      · have h4 := of_decide_eq_false h4
        refine skip ?_
        rcases I.lk j hji with h | ⟨a, g⟩
        · rw [h.2]; omega
        · have := g.via_; omega
      have h4 := of_decide_eq_true h4
      obtain ⟨a, g⟩ := I.hg hji (by omega)
      rw [g.via_]
      refine ptrP_mk ⟨_, k5.ld rfl, ptrP_mk ⟨_, q4.ld rfl, q1.rdI g.am ?_⟩⟩
      refine ifP_of (fun h5 => ?_) (fun h5 => skip (by rw [g.par_]; exact of_decide_eq_false h5))
      have h5 : hdA fr to a = r := by have := of_decide_eq_true h5; omega
      have hjr : j ≠ r := by rintro rfl; exact g.par_ne hpr
      refine (drop_T P I hc m1 hji g).mono ?_
      rintro _ g102 ⟨rfl, F2, P2⟩
      refine rt_ret ⟨rfl, ?_⟩
      have I2 := I.drop hji g
      obtain ⟨ln, hln, hget⟩ := g.nx
      have hlt2 := (List.getElem?_eq_some_iff.1 hget).1
      have hlen := arcsL_length (fr := fr) (to := to) (v := j) (i := m)
      have k5 := k5.fm F2 (by simp <;> omega)
      obtain ⟨zv, zl, zn, z5, z6, z7, z8⟩ := P2.ex
      refine ptrP_mk ⟨_, z5.ld rfl, z8.rdI hji ?_⟩
      rw [hln, i64_inc (by omega)]
      refine z8.setI hji ?_
      intro g108 F3 z8
      have N := P2.net
      have Fo := P2.fo_.of F3 (by rw [P2.o9]; simp) (by rw [P2.o11]; simp)
      have N := N.fm F3 (by simp <;> omega)
      have z5 := z5.fm F3 (by simp <;> omega)
      have z6 := z6.fm F3 (by simp <;> omega)
      have z7 := z7.fm F3 (by simp <;> omega)
      have k5 := k5.fm F3 (by simp <;> omega)
      have I3 := I2.adv (v := j) upd_at g.l1 g.l4 (y := ((ln + 1 : Nat) : Int)) (by omega) (by omega)
      refine mu_next (I := I89) (k := i - (j + 1)) ⟨j + 1, _, _, _, _, _, rfl, hji, rfl, (F.trans (F2.mono (by simp))).trans (F3.mono (by simp)), k5, ⟨N, ⟨_, _, _, z5, z6, z7, z8⟩, Fo, P2.o9, P2.o11⟩, I3, fun u hu => ?_,
        by rw [upd_ne hjr.symm]; exact hpr, by rw [upd_ne hjr.symm]; exact hvr, by rw [upd_ne hjr.symm]; exact hnr, fun v hv hp => ?_, ?_⟩ (hltf hji)
      · by_cases e : u = j
        · subst e; rw [upd_at]; omega
        · rw [upd_ne e]; exact hno u (by omega)
      · by_cases e : v = j
        · subst e; rw [upd_at] at hp; exact absurd rfl hp
        · rw [upd_ne e] at hp ⊢; exact hpos v hv hp
      · rcases hpg with h | ⟨h, d⟩
        · exact .inl h
        · exact .inr ⟨h, d.adv hn hji hln hget (by rw [h5]; exact hjr.symm) (by rw [h5]; exact ⟨hrt, hnr⟩)⟩
    · have : j = i := by have := of_decide_eq_false h3; omega
      subst this
      have hc1 := cntN_neg (n := j) (lev := lev) (x := -1) hr (by omega) (by omega)
      have hc2 := cntN_le (n := j) (lev := upd lev r (-1))
      have I2 : TrI j m fr to cap s' t lev0 (upd lev r (-1)) E room nxt via par tv := by
        refine ⟨I.rmE, I.rmR, fun v hv => ?_, I.eq, I.nb, fun w hw => ?_⟩
        · rcases I.lk v hv with h | ⟨a, g⟩
          · exact .inl h
          · have n1 : v ≠ r := by rintro rfl; exact g.par_ne hpr
            have n2 : hdA fr to a ≠ r := by
              intro e
              have := hno v hv
              rw [g.par_] at this
              omega
            exact .inr ⟨a, g.via_, g.am, g.tl, g.nx, g.par_, g.tv_, by rw [upd_ne n1]; exact g.l1, by rw [upd_ne n2]; exact g.l2, g.l3, g.l4⟩
        · by_cases e : w = r
          · subst e; exact .inr ⟨upd_at, hnr, hrt, h2⟩
          · rw [upd_ne e]; exact I.al w hw
      have hlt : r4 (PhT j m fr to (upd lev r (-1)) nxt via) al := by
        rw [hal]
        refine .inl ?_
        show ((j : Int) - cntN j (upd lev r (-1))).toNat < ((j : Int) - cntN j lev).toNat
        omega
      exact muW_next hmin (a := PhT j m fr to (upd lev r (-1)) nxt via) ⟨_, E, room, nxt, via, par, tv, rfl, F, P, I2, hpos, hcons, hpg⟩ hlt

theorem tfill_T (hc : ∀ i, i < m → cap i ≤ 1048576) (hn : ∀ i, i < m → fr i < n ∧ to i < n) (m1 : m ≤ 4096) (n1 : n ≤ 1024) (hs : s < n) (ht : t < n) {room : Nat → Int} {x1 x2 x3 x4 : Value}
    (N : Net own h bn n m fr to s t room) (B : B1 own h 5 bt [.pointer (some (bk bn)), x1, x2, x3, x4]) (F0 : FlS n m fr to cap s t room) (hst : s ≠ t) :
    T Try.prog F.maxflow_trees_fill [.pointer (some (bk bt))] h fun r h' => ∃ own' room', r = .ret (.tuple ⟨[]⟩) ∧ Fm [2, 5, 6, 7, 8, 9, 11] own h own' h' ∧ Net own' h' bn n m fr to s t room' ∧
      FlS n m fr to cap s t room' ∧ ¬ Rch (ArS m fr to room') s t := by
  refine E_maxflow_trees_fill ?_
  unfold B_maxflow_trees_fill
  let I : Unit → H → Nat → Prop := fun _ q k => ∃ own' room' x1 x2 x3 x4, Fm [2, 5, 6, 7, 8, 9, 11] own h own' q ∧ Net own' q bn n m fr to s t room' ∧ B1 own' q 5 bt [.pointer (some (bk bn)), x1, x2, x3, x4] ∧ FlS n m fr to cap s t room' ∧
    (k : Int) = 4294967296 - OutF m fr to (onR room') s
  have bdk : ∀ {room' : Nat → Int}, FlS n m fr to cap s t room' → ∃ k : Nat, (k : Int) = 4294967296 - OutF m fr to (onR room') s := by
    intro room' F
    have := out_bd (fr := fr) (to := to) (onR_bd F.rm hc) m1 s
    exact ⟨(4294967296 - OutF m fr to (onR room') s).toNat, by omega⟩
  obtain ⟨k0, hk0⟩ := bdk F0
  refine ⟨fun p q => ∃ k, I p q k, rk I, rk_wf I, ⟨k0, own, room, x1, x2, x3, x4, Fm.refl, N, B, F0, hk0⟩, ?_⟩
  clear F0 N B hk0
  intro q hI
  obtain ⟨own1_, room1, x1, x2, x3, x4, F, N, B, F0, hkm⟩ := mu_spec hI
  generalize hkk : mu I ((), q) = km at *
  obtain ⟨vto, vroom, vout, outs, k4, k1, k2, k3, ka⟩ := N.ex
  refine ptrP_mk (ptrP_mk ⟨_, B.ld rfl, _, B.ld rfl, ptrP_mk ⟨_, k4.ld rfl, ?_⟩⟩)
  refine (levels_T N hn n1 m1 hs).mono ?_
  rintro _ q2 ⟨x2_, bl, lev, rfl, hbl, Sl6, L⟩
  refine rt_ret ?_
  have k6 := S1.of (i := 7) Sl6 own1_
  have F2 : Fm [] own1_ q (own1 own1_ bl 7) q2 := Fm.new x2_ hbl
  have F := F.trans (F2.mono (by simp))
  have B := B.fm F2 (by simp <;> omega)
  have N := N.new (i := 7) x2_ hbl
  generalize own1 own1_ bl 7 = own2 at *
  clear F2 k4 k1 k2 k3 ka hbl x2_
  refine ptrP_mk (oneP_mk ?_)
  refine B.st (by simp) ?_
  intro q3 F2 B
  simp only [List.set] at B
  have N := N.fm F2 (by simp <;> omega)
  have k6 := k6.fm F2 (by simp <;> omega)
  have F := F.trans (F2.mono (by simp))
  clear F2
  obtain ⟨vto, vroom, vout, outs, k4, k1, k2, k3, ka⟩ := N.ex
  refine ptrP_mk (ptrP_mk ⟨_, B.ld rfl, _, B.ld rfl, ptrP_mk ⟨_, k4.ld rfl, ?_⟩⟩)
  refine k6.rdI ht ?_
  refine ifP_of (fun h1 => ?_) (fun h1 => ?_)
  · have h1 := of_decide_eq_true h1
    refine ⟨own2, room1, rfl, F, N, F0, fun r => ?_⟩
    have := (L.iff hn ht).2 r
    omega
  · have h1 := of_decide_eq_false h1
    refine (phase_T hc hn m1 n1 hs ht hst N B k6 F0 L (by omega)).mono ?_
    rintro _ q4 ⟨own3, room2, y1, y2, y3, y4, rfl, F2, N, B, F1, hlt⟩
    refine rt_ret ⟨rfl, ?_⟩
    obtain ⟨k2, hk2⟩ := bdk F1
    exact mu_next (I := I) (k := k2) ⟨own3, room2, _, _, _, _, F.trans (F2.mono (by simp)), N, B, F1, hk2⟩ (by rw [hkk]; omega)
end

end Go.Proofs.Ythglkcpoofenbaa

/-! Solve. -/
namespace Go.Proofs.Ythglkcpoofenbaa
open Go
set_option linter.unusedVariables false
set_option linter.unusedSimpArgs false

theorem meth57 (a : Addr) (w : World) : (method (Try.prog.types.size + Made.depth) 57 (.pointer (some a)) "compass/maxflow.fill").run Try.prog w = .ok (F.maxflow_dinic_fill, .pointer (some a)) w := by
  kernel_rfl
theorem meth61 (a : Addr) (w : World) : (method (Try.prog.types.size + Made.depth) 61 (.pointer (some a)) "compass/maxflow.fill").run Try.prog w = .ok (F.maxflow_trees_fill, .pointer (some a)) w := by
  kernel_rfl
theorem meth65 (a : Addr) (w : World) : (method (Try.prog.types.size + Made.depth) 65 (.pointer (some a)) "compass/maxflow.fill").run Try.prog w = .ok (F.maxflow_pushing_fill, .pointer (some a)) w := by
  kernel_rfl

/-- A flow as Go holds it. -/
abbrev flV (s t : Int) (on side : Value) : List Value := [.int .i64 s, .int .i64 t, on, side]
abbrev flZ : List Value := flV 0 0 (.slice none 0 0) (.slice none 0 0)
abbrev slV (b n : Nat) : Value := .slice (some (bk b)) n n
/-- What Solve answers where nothing is wrong. -/
structure SolR (h h' : H) (n m : Nat) (es : Nat → Ed) (s t : Nat) (b1 b2 : Nat) (f : Nat → Int) (side : Nat → Bool) : Prop where
  n1 : h b1 = none
  n2 : h b2 = none
  ne : b1 ≠ b2
  s1 : Sl h' b1 (slV b1 m) (ints m f)
  s2 : Sl h' b2 (slV b2 n) (bools n side)
  mx : MaxP n m (frE es) (toE es) (cpE es) s t f
  sd : ∀ v, v < n → (side v = true ↔ Rch (RsS m (frE es) (toE es) (cpE es) f) s v)
def SolA (h : H) (n : Int) (m : Nat) (es : Nat → Ed) (s t k : Int) (r : Res) (h' : H) : Prop :=
  Ext h h' ∧ ((wrong13 n m es s t k ≠ 0 ∧ r = .ret (.tuple ⟨[.agg ⟨flZ⟩, .int .i64 0, .int .i64 (wrong13 n m es s t k)]⟩)) ∨
    (wrong13 n m es s t k = 0 ∧ ∃ (n' s' t' b1 b2 : Nat) (f : Nat → Int) (side : Nat → Bool), n = n' ∧ s = s' ∧ t = t' ∧ s' < n' ∧ t' < n' ∧ s' ≠ t' ∧ Gd n' m es ∧
      r = .ret (.tuple ⟨[.agg ⟨flV s t (slV b1 m) (slV b2 n')⟩, .int .i64 (OutF m (frE es) (toE es) f s'), .int .i64 0]⟩) ∧ SolR h h' n' m es s' t' b1 b2 f side))

section
variable {h : H} {w : List Value} {n : Int} {m : Nat} {es : Nat → Ed}
theorem Solve_T (G : GrA h w n m es) (s t k : Int) : T Try.prog F.maxflow_Solve [.agg ⟨w⟩, .int .i64 s, .int .i64 t, .int .i64 k] h (SolA h n m es s t k) := by
  refine E_maxflow_Solve ?_
  unfold B_maxflow_Solve
  refine new_bl ?_
  intro b1 g2 hb1 x1 B1_
  refine new_bl ?_
  intro b3 g4 hb3 x3 B3
  have B1_ := B1_.ext x3
  have x13 := x1.trans' x3
  have hb3h := x1.new hb3
  refine B1_.ldN G.one.1 ?_
  refine (Check_T (G.ext x13)).mono ?_
  rintro _ g7 ⟨rfl, x7⟩
  refine rt_ret ⟨_, rfl, rfl, ?_⟩
  have B1_ := B1_.ext x7
  have B3 := B3.ext x7
  refine new_bl_st rfl rfl (by simp [Value.oneCell']) ?_
  intro b9 g11 hb9 x9 B9
  have B1_ := B1_.ext x9
  have B3 := B3.ext x9
  have xh : Ext h g11 := (x13.trans' x7).trans' x9
  have hne : b9 ≠ b3 := by
    rintro rfl
    obtain ⟨e, h1⟩ := B3
    have := x7
    obtain ⟨e2, h2⟩ := B9
    rw [h1] at h2
    simp at h2
  -- an error
  have err : ∀ {q : H} {c : Int}, Ext h q → Bl q b3 flZ → c ≠ 0 → wrong13 n m es s t k = c → stN q (bk b3) flZ 4 fun h14 => ldN h14 (bk b3) 4 fun x15 =>
      SolA h n m es s t k (.ret (.tuple ⟨[.agg ⟨x15⟩, .int .i64 0, .int .i64 c]⟩)) h14 := by
    rintro q c xq Bq hc rfl
    refine Bq.stN rfl rfl (by simp [Value.oneCell']) ?_
    intro q2 kp B2
    exact B2.ldN rfl ⟨xq.of_kp kp hb3h, .inl ⟨hc, rfl⟩⟩
  refine ⟨_, B9.ld rfl, ifP_of (fun h0 => ?_) (fun h0 => ?_)⟩
  · have h0 : (faultG n m es).1 ≠ 0 := by simpa using h0
    refine ⟨_, B9.ld rfl, ?_⟩
    refine B3.stN rfl rfl (by simp [Value.oneCell']) ?_
    intro q2 kp B2
    refine ⟨sameAt_bl B9 (B9.kp kp hne), B2.ldN rfl ⟨xh.of_kp kp hb3h, .inl ⟨?_, ?_⟩⟩⟩
    · unfold wrong13 endsC wrongC
      rw [if_neg h0, if_neg h0, if_neg h0]; exact h0
    · have : wrong13 n m es s t k = (faultG n m es).1 := by
        unfold wrong13 endsC wrongC
        rw [if_neg h0, if_neg h0, if_neg h0]
      rw [this]
  have h0 : (faultG n m es).1 = 0 := by simpa using h0
  obtain ⟨N, rfl, g⟩ := Gd.of h0
  have n1 := g.n1
  have m1 := g.m1
  have wC : ∀ x, wrongC N m es x = if 0 ≤ x ∧ x < N then 0 else 30 := fun x => if_pos h0
  have w30 : ¬ (0 ≤ s ∧ s < N) ∨ ¬ (0 ≤ t ∧ t < N) → wrong13 N m es s t k = 30 := by
    intro h
    have : endsC N m es s t = 30 := by
      unfold endsC
      rw [wC, wC]
      by_cases h1 : 0 ≤ s ∧ s < N
      · rw [if_pos h1]
        rcases h with h | h
        · exact absurd h1 h
        · rw [if_neg h]; rfl
      · rw [if_neg h1]; rfl
    unfold wrong13
    rw [this]; rfl
  obtain ⟨a, c, rfl, hcE⟩ := G
  have G : GrA h [.int .i64 N, .slice a m c] N m es := ⟨a, c, rfl, hcE⟩
  refine ⟨fun _ q => g11 = q ∧ (0 ≤ s ∧ s < N) ∧ (0 ≤ t ∧ t < N), ?_, ?_⟩
  · refine ifP_of (fun h1 => err xh B3 (by omega) (w30 (.inl (by have := of_decide_eq_true h1; omega)))) (fun h1 => ?_)
    have h1 := of_decide_eq_false h1
    refine ⟨_, B1_.ld rfl, ifP_of (fun h2 => err xh B3 (by omega) (w30 (.inl (by have := of_decide_eq_true h2; omega)))) (fun h2 => ?_)⟩
    have h2 := of_decide_eq_false h2
    refine ifP_of (fun h3 => err xh B3 (by omega) (w30 (.inr (by have := of_decide_eq_true h3; omega)))) (fun h3 => ?_)
    have h3 := of_decide_eq_false h3
    refine ⟨_, B1_.ld rfl, ifP_of (fun h4 => err xh B3 (by omega) (w30 (.inr (by have := of_decide_eq_true h4; omega)))) (fun h4 => ?_)⟩
    have h4 := of_decide_eq_false h4
    exact ⟨rfl, by omega, by omega⟩
  rintro _ ⟨rfl, hsr, htr⟩
  obtain ⟨s', rfl⟩ : ∃ s' : Nat, s = s' := ⟨s.toNat, by omega⟩
  obtain ⟨t', rfl⟩ : ∃ t' : Nat, t = t' := ⟨t.toNat, by omega⟩
  have hsn : s' < N := by omega
  have htn : t' < N := by omega
  have wE : endsC N m es s' t' = if (s' : Int) = t' then 120 else 0 := by
    unfold endsC
    rw [wC, wC, if_pos hsr, if_pos htr]; rfl
  refine ifP_of (fun h5 => err xh B3 (by omega) ?_) (fun h5 => ?_)
  · unfold wrong13
    rw [wE, if_pos (of_decide_eq_true h5)]; rfl
  have h5 := of_decide_eq_false h5
  have hst : s' ≠ t' := by omega
  rw [if_neg h5] at wE
  refine B1_.ldN rfl ?_
  refine (newNet_T (s := s') (t := t') (G.ext xh) g).mono ?_
  rintro _ g32 ⟨bn, own, rfl, bs, Nt⟩
  refine rt_ret ?_
  have O0 : ∀ u, OutF m (frE es) (toE es) (onR (room0 (cpE es))) u = 0 := room0_out
  have hc0 : ∀ i, i < m → 0 ≤ cpE es i := fun i hi => (g.c i hi).1
  have hc1 : ∀ i, i < m → cpE es i ≤ 1048576 := fun i hi => (g.c i hi).2
  have R0 := room0_ok hc0
  have F0 : FlS N m (frE es) (toE es) (cpE es) s' t' (room0 (cpE es)) := ⟨R0, fun v _ _ _ => O0 v⟩
  refine ⟨fun p q => (1 ≤ k ∧ k ≤ 3) ∧ ∃ ty f bo, p.1 = .iface ty (.pointer (some (bk bo))) ∧
    (∀ w, (method (Try.prog.types.size + Made.depth) ty (.pointer (some (bk bo))) "compass/maxflow.fill").run Try.prog w = .ok (f, .pointer (some (bk bo))) w) ∧
    T Try.prog f [.pointer (some (bk bo))] q fun r h' => r = .ret (.tuple ⟨[]⟩) ∧ ∃ own' room', Bs g11 own' h' ∧ Net own' h' bn N m (frE es) (toE es) s' t' room' ∧ FlS N m (frE es) (toE es) (cpE es) s' t' room' ∧ ¬ Rch (ArS m (frE es) (toE es) room') s' t', ?_, ?_⟩
  · refine ifP_of (fun h6 => ?_) (fun h6 => ?_)
    · have h6 := of_decide_eq_true h6
      refine oneP_ptr (new_bl ?_)
      intro bo q hbo xo Bo
      refine ⟨by omega, 57, F.maxflow_dinic_fill, bo, rfl, meth57 _, ?_⟩
      refine (dfill_T hc1 g.ends m1 n1 hsn htn (Nt.new (i := 5) xo hbo) (B1.new Bo) F0 hst).mono ?_
      rintro _ q2 ⟨own', room', rfl, F, N2, f1, f2⟩
      exact ⟨rfl, own', room', (bs.new xo hbo).fm F (by simp), N2, f1, f2⟩
    have h6 := of_decide_eq_false h6
    refine ifP_of (fun h7 => ?_) (fun h7 => ?_)
    · have h7 := of_decide_eq_true h7
      refine oneP_ptr (new_bl ?_)
      intro bo q hbo xo Bo
      refine ⟨by omega, 61, F.maxflow_trees_fill, bo, rfl, meth61 _, ?_⟩
      refine (tfill_T hc1 g.ends m1 n1 hsn htn (Nt.new (i := 5) xo hbo) (B1.new Bo) F0 hst).mono ?_
      rintro _ q2 ⟨own', room', rfl, F, N2, f1, f2⟩
      exact ⟨rfl, own', room', (bs.new xo hbo).fm F (by simp), N2, f1, f2⟩
    have h7 := of_decide_eq_false h7
    refine ifP_of (fun h8 => ?_) (fun h8 => ?_)
    · have h8 := of_decide_eq_true h8
      refine oneP_ptr (new_bl ?_)
      intro bo q hbo xo Bo
      refine ⟨by omega, 65, F.maxflow_pushing_fill, bo, rfl, meth65 _, ?_⟩
      refine (pfill_T hc0 hc1 g.ends m1 n1 hsn htn (Nt.new (i := 5) xo hbo) (B1.new Bo) R0 O0 hst).mono ?_
      rintro _ q2 ⟨own', room', rfl, F, N2, f1, f2⟩
      exact ⟨rfl, own', room', (bs.new xo hbo).fm F (by simp), N2, f1, f2⟩
    have h8 := of_decide_eq_false h8
    refine err (xh.trans' bs.ext) (B3.ext bs.ext) (by omega) ?_
    unfold wrong13
    rw [wE, if_pos rfl, if_neg (by omega)]
  rintro v35 q ⟨hk, ty, f, bo, hv, hm, hT⟩
  change v35 = _ at hv
  subst hv
  refine ⟨f, _, fun w _ => hm w, ?_⟩
  refine hT.mono ?_
  rintro _ g47 ⟨rfl, own, room, bs, Nt, Fl, nr⟩
  refine rt_ret ⟨rfl, ?_⟩
  clear hT hm
  have B1g := B1_
  have w0 : wrong13 N m es s' t' k = 0 := by
    unfold wrong13
    rw [wE, if_pos rfl, if_pos hk]
  have B1_ := B1_.ext bs.ext
  have xq := xh.trans' bs.ext
  refine ⟨_, B1_.ld rfl, slcP_mk ⟨_, B1_.ld rfl, ?_⟩⟩
  refine mk_ints 12 (by omega) (by omega) ?_
  intro b53 g54 hb53 x54 S12
  have bs := bs.new (i := 12) x54 hb53
  have Nt := Nt.new (i := 12) x54 hb53
  have k12 := S12 own
  generalize own1 own b53 12 = own at *
  clear S12
  refine mk_bools 13 (by omega) (by omega) ?_
  intro b55 g56 hb55 x56 S13
  have bs := bs.new (i := 13) x56 hb55
  have Nt := Nt.new (i := 13) x56 hb55
  have k13 := S13 own
  have k12 := k12.nw (j := 13) x56 hb55
  generalize own1 own b55 13 = own at *
  clear S13
  refine new_bl_st rfl rfl (by simp [Value.oneCell']) ?_
  intro b57 g59 hb57 x59 B57
  have bs := bs.new (i := 14) x59 hb57
  have Nt := Nt.new (i := 14) x59 hb57
  have k12 := k12.nw (j := 14) x59 hb57
  have k13 := k13.nw (j := 14) x59 hb57
  have k14 : B1 (own1 own b57 14) g59 14 b57 _ := B1.new B57
  generalize own1 own b57 14 = own at *
  rw [Int.toNat_natCast, Int.toNat_natCast] at k14
  have B1_ := ((B1_.ext x54).ext x56).ext x59
  have hb53h : h b53 = none := xq.new hb53
  have hb55h : h b55 = none := (xq.trans' x54).new hb55
  have hne2 : b53 ≠ b55 := by
    rintro rfl
    have h1 := k12.sl.2
    have h2 := k13.sl.2
    omega
  clear B57 x54 x56 x59 hb57 hb55 hb53
  refine ⟨_, B1_.ld rfl, slcP_mk ?_⟩
  let I64 : (Int × Unit) → H → Nat → Prop := fun p q k => ∃ (i : Nat) (f : Nat → Int), p.1 = i ∧ i ≤ m ∧ k = m - i ∧ Bs g11 own q ∧ Net own q bn N m (frE es) (toE es) s' t' room ∧
    S1 own q 12 (slV b53 m) (ints m f) ∧ S1 own q 13 (slV b55 N) (bools N fun _ => false) ∧ B1 own q 14 b57 (flV s' t' (slV b53 m) (slV b55 N)) ∧ ∀ j, j < i → f j = onR room j
  refine ⟨fun p q => ∃ k, I64 p q k, rk I64, rk_wf I64, ⟨_, 0, _, rfl, by omega, rfl, bs, Nt, k12, k13, k14, fun j hj => by omega⟩, ?_⟩
  clear bs Nt k12 k13 k14
  intro p q hI
  obtain ⟨i, f, e1, hi, hk2, bs, Nt, k12, k13, k14, hf⟩ := mu_spec hI
  generalize hkk : mu I64 ((p, ()), q) = km at *
  change p = (i : Int) at e1
  subst e1
  have hltf : m - (i + 1) < mu I64 (((i : Int), ()), q) ∨ ¬ i < m := by rw [hkk, hk2]; omega
  clear hI
  obtain ⟨vto, vroom, vout, outs, q4, q1, q2, q3, qa⟩ := Nt.ex
  refine ifP_of (fun h1 => ?_) (fun h1 => ?_)
  · have him : i < m := by have := of_decide_eq_true h1; omega
    refine ptrP_mk ⟨_, k14.ld rfl, _, q4.ld rfl, ?_⟩
    have ew : IntKind.i64.wrap (IntKind.i64.wrap (2 * (i : Int)) + 1) = ((2 * i + 1 : Nat) : Int) := by
      have e1 : IntKind.i64.wrap (2 * (i : Int)) = 2 * (i : Int) := w64_in (by omega) (by omega)
      have e2 : IntKind.i64.wrap (2 * (i : Int) + 1) = 2 * (i : Int) + 1 := w64_in (by omega) (by omega)
      rw [e1, e2]; omega
    rw [ew]
    refine q2.rdI (by omega) (k12.setI him ?_)
    intro g74 F k12
    have bs := bs.fm F (by simp <;> omega)
    have k13 := k13.fm F (by simp <;> omega)
    have k14 := k14.fm F (by simp <;> omega)
    have Nt : Net own g74 bn N m (frE es) (toE es) s' t' room := Nt.fm F (by simp)
    rw [i64_inc (by omega)]
    refine mu_next (I := I64) (k := m - (i + 1)) ⟨i + 1, _, rfl, him, rfl, bs, Nt, k12, k13, k14, fun j hj => ?_⟩ (by omega)
    by_cases e : j = i
    · subst e; rw [upd_at]; rfl
    · rw [upd_ne e]; exact hf j (by omega)
  have : i = m := by have := of_decide_eq_false h1; omega
  subst this
  clear hkk hk2 hltf h1 hi
  have ef : ints i f = ints i (onR room) := ints_ext hf
  rw [ef] at k12
  clear ef hf
  refine (levels_T Nt g.ends n1 m1 hsn).mono ?_
  rintro _ g76 ⟨x76, bl, lev, rfl, hbl, Sl6, L⟩
  refine rt_ret (slcP_mk ?_)
  have bs := bs.new (i := 15) x76 hbl
  have Nt := Nt.new (i := 15) x76 hbl
  have k12 := k12.nw (j := 15) x76 hbl
  have k13 := k13.nw (j := 15) x76 hbl
  have k14 := k14.nw (j := 15) x76 hbl
  have k15 : S1 (own1 own bl 15) g76 15 (slV bl N) (ints N lev) := S1.of Sl6 own
  generalize own1 own bl 15 = own at *
  clear Sl6 hbl x76 q4 q1 q2 q3 qa
  let I80 : (Int × Unit) → H → Nat → Prop := fun p q k => ∃ (v : Nat) (sd : Nat → Bool), p.1 = v ∧ v ≤ N ∧ k = N - v ∧ Bs g11 own q ∧
    S1 own q 12 (slV b53 i) (ints i (onR room)) ∧ S1 own q 13 (slV b55 N) (bools N sd) ∧ B1 own q 14 b57 (flV s' t' (slV b53 i) (slV b55 N)) ∧ S1 own q 15 (slV bl N) (ints N lev) ∧ ∀ j, j < v → sd j = decide (0 ≤ lev j)
  refine ⟨fun p q => ∃ k, I80 p q k, rk I80, rk_wf I80, ⟨_, 0, _, rfl, by omega, rfl, bs, k12, k13, k14, k15, fun j hj => by omega⟩, ?_⟩
  clear bs k12 k13 k14 k15
  intro p q hI
  obtain ⟨v, sd, e1, hv, hk2, bs, k12, k13, k14, k15, hsd⟩ := mu_spec hI
  generalize hkk : mu I80 ((p, ()), q) = km at *
  change p = (v : Int) at e1
  subst e1
  have hltf : N - (v + 1) < mu I80 (((v : Int), ()), q) ∨ ¬ v < N := by rw [hkk, hk2]; omega
  clear hI
  refine ifP_of (fun h1 => ?_) (fun h1 => ?_)
  · have hvn : v < N := by have := of_decide_eq_true h1; omega
    refine k15.rdI hvn ⟨_, k14.ld rfl, k13.setB hvn ?_⟩
    intro g88 F k13
    have bs := bs.fm F (by simp <;> omega)
    have k12 := k12.fm F (by simp <;> omega)
    have k14 := k14.fm F (by simp <;> omega)
    have k15 := k15.fm F (by simp <;> omega)
    rw [i64_inc (by omega)]
    refine mu_next (I := I80) (k := N - (v + 1)) ⟨v + 1, _, rfl, hvn, rfl, bs, k12, k13, k14, k15, fun j hj => ?_⟩ (by omega)
    unfold updB
    by_cases e : j = v
    · subst e; rw [if_pos rfl]
    · rw [if_neg e]; exact hsd j (by omega)
  have : v = N := by have := of_decide_eq_false h1; omega
  subst this
  clear hkk hk2 hltf h1 hv
  have Mx : MaxP v i (frE es) (toE es) (cpE es) s' t' (onR room) := ⟨Fl.flow, fun r => nr ((rch_iff Fl.rm).2 r)⟩
  have hsd2 : ∀ u, u < v → (sd u = true ↔ Rch (RsS i (frE es) (toE es) (cpE es) (onR room)) s' u) := by
    intro u hu
    rw [hsd u hu, ← rch_iff Fl.rm, ← L.iff g.ends hu]
    simp
  -- the value
  have crossE : ∀ j, j < i → Rch (RsS i (frE es) (toE es) (cpE es) (onR room)) s' (frE es j) → ¬ Rch (RsS i (frE es) (toE es) (cpE es) (onR room)) s' (toE es j) → onR room j = cpE es j := fun j hj h1 h2 =>
    (Fl.flow.tight g.ends hsn .refl Mx.nr (by rw [Mx.cut g.ends hsn]; exact Int.le_refl _) j hj).1 h1 h2
  have b1q : Bl q b1 [.int .i64 v, .slice a i c] := B1g.ext bs.ext
  refine ⟨_, b1q.ld rfl, slcP_mk ?_⟩
  let cr : Nat → Int := fun j => if sd (frE es j) = true ∧ sd (toE es j) = false then onR room j else 0
  have crb : ∀ j, j < i → 0 ≤ cr j ∧ cr j ≤ 1048576 := by
    intro j hj
    have := onR_bd Fl.rm hc1 j hj
    show 0 ≤ (if sd (frE es j) = true ∧ sd (toE es j) = false then onR room j else 0) ∧ (if sd (frE es j) = true ∧ sd (toE es j) = false then onR room j else 0) ≤ 1048576
    split <;> omega
  have crs : ∀ j, j ≤ i → 0 ≤ sumN j cr ∧ sumN j cr ≤ 4294967296 := by
    intro j hj
    have h1 := sumN_nonneg (f := cr) (k := j) fun l hl => (crb l (by omega)).1
    have h2 := sumN_bd (f := cr) (k := j) (c := 1048576) fun l hl => (crb l (by omega)).2
    omega
  let I93 : (Int × Int × Unit) → H → Nat → Prop := fun p q2 k => ∃ (j : Nat), p.2.1 = j ∧ j ≤ i ∧ k = i - j ∧ p.1 = sumN j cr ∧ Ext q q2
  refine ⟨fun p q => ∃ k, I93 p q k, rk I93, rk_wf I93, ⟨_, 0, rfl, by omega, rfl, rfl, Ext.refl q⟩, ?_⟩
  intro val p q2 hI
  obtain ⟨j, e1, hj, hk2, hval, xq2⟩ := mu_spec hI
  generalize hkk : mu I93 ((val, p, ()), q2) = km at *
  change p = (j : Int) at e1
  subst e1
  change val = sumN j cr at hval
  subst hval
  have hltf : i - (j + 1) < mu I93 ((sumN j cr, (j : Int), ()), q2) ∨ ¬ j < i := by rw [hkk, hk2]; omega
  clear hI
  have cj := crs j hj
  have FX : Fm [] own q own q2 := Fm.of_ext xq2
  have k12 := k12.fm FX (by simp <;> omega)
  have k13 := k13.fm FX (by simp <;> omega)
  have k14 := k14.fm FX (by simp <;> omega)
  refine ifP_of (fun h1 => ?_) (fun h1 => ?_)
  · have hji : j < i := by have := of_decide_eq_true h1; omega
    obtain ⟨ad, rfl, hcc⟩ := hcE j hji
    have ef := g.fr hji
    have et := g.to hji
    refine ⟨by omega, by omega, ?_⟩
    rw [Int.toNat_natCast]
    refine ⟨(es j).vs, rfl, fun l v hl => (xh.trans' (bs.ext.trans' xq2)).cell (hcc l v hl), ?_⟩
    refine new_bl_st rfl rfl (ed_one _) ?_
    intro b100 g102 hb100 x102 B100
    have xn := xq2.trans' x102
    have FY : Fm [] own q2 own g102 := Fm.of_ext x102
    have k12 := k12.fm FY (by simp <;> omega)
    have k13 := k13.fm FY (by simp <;> omega)
    have k14 := k14.fm FY (by simp <;> omega)
    have nxt : ∀ x : Int, x = cr j → (∃ k, I93 (IntKind.i64.wrap (sumN j cr + x), IntKind.i64.wrap ((j : Int) + 1), ()) g102 k) ∧ rk I93 ((IntKind.i64.wrap (sumN j cr + x), IntKind.i64.wrap ((j : Int) + 1), ()), g102) ((sumN j cr, (j : Int), ()), q2) := by
      rintro x rfl
      have c2 := crs (j + 1) hji
      have e : sumN (j + 1) cr = sumN j cr + cr j := rfl
      have ew : IntKind.i64.wrap (sumN j cr + cr j) = sumN (j + 1) cr := by rw [e]; exact w64_in (by omega) (by omega)
      rw [ew, i64_inc (by omega)]
      exact mu_next (I := I93) (k := i - (j + 1)) ⟨j + 1, rfl, hji, rfl, rfl, xn⟩ (by omega)
    have nxt0 : cr j = 0 → (∃ k, I93 (sumN j cr, IntKind.i64.wrap ((j : Int) + 1), ()) g102 k) ∧ rk I93 ((sumN j cr, IntKind.i64.wrap ((j : Int) + 1), ()), g102) ((sumN j cr, (j : Int), ()), q2) := by
      intro h
      have := nxt 0 h.symm
      have ew : IntKind.i64.wrap (sumN j cr + 0) = sumN j cr := by
        have : IntKind.i64.wrap (sumN j cr + 0) = sumN j cr + 0 := w64_in (by omega) (by omega)
        rw [this]; omega
      rwa [ew] at this
    refine ⟨_, k14.ld rfl, _, B100.ed.1, ?_⟩
    rw [ef.1]
    refine k13.rdB ef.2 ?_
    refine ifP_of (fun h2 => ?_) (fun h2 => nxt0 (if_neg fun h => by rw [h2] at h; cases h.1))
    refine ⟨_, k14.ld rfl, _, B100.ed.2.1, ?_⟩
    rw [et.1]
    refine k13.rdB et.2 ?_
    refine ifP_of (fun h3 => ?_) (fun h3 => nxt0 (if_neg fun h => by rw [h.2] at h3; cases h3))
    have h3 : sd (toE es j) = false := by simpa using h3
    exact ⟨_, k14.ld rfl, k12.rdI hji (nxt _ (if_pos ⟨h2, h3⟩).symm)⟩
  have : j = i := by have := of_decide_eq_false h1; omega
  subst this
  have hv : sumN j cr = OutF j (frE es) (toE es) (onR room) s' := by
    rw [Mx.cut g.ends hsn]
    refine sumN_congr fun l hl => ?_
    have e1 := hsd2 _ (g.fr hl).2
    have e2 := hsd2 _ (g.to hl).2
    show (if sd (frE es l) = true ∧ sd (toE es l) = false then onR room l else 0) = _
    by_cases c1 : sd (frE es l) = true ∧ sd (toE es l) = false
    · have r1 := e1.1 c1.1
      have r2 : ¬ Rch (RsS j (frE es) (toE es) (cpE es) (onR room)) s' (toE es l) := fun h => by
        have := e2.2 h
        rw [c1.2] at this; cases this
      rw [if_pos c1, if_pos ⟨r1, r2⟩]
      exact crossE l hl r1 r2
    · rw [if_neg c1, if_neg]
      rintro ⟨r1, r2⟩
      refine c1 ⟨e1.2 r1, ?_⟩
      cases e : sd (toE es l)
      · rfl
      · exact absurd (e2.1 e) r2
  rw [hv]
  refine k14.ldN rfl ?_
  have B3q : Bl q2 b3 flZ := (B3.ext bs.ext).ext xq2
  refine B3q.stN rfl rfl (by simp [Value.oneCell']) ?_
  intro q3 kp B3q
  refine B3q.ldN rfl ⟨((xh.trans' bs.ext).trans' xq2).of_kp kp hb3h, .inr ⟨w0, v, s', t', b53, b55, onR room, sd, rfl, rfl, rfl, hsn, htn, hst, g, rfl, ?_⟩⟩
  have o53 := k12.sl
  have o55 := k13.sl
  have ne1 : b53 ≠ b3 := by
    rintro rfl
    obtain ⟨e, h1⟩ := B3
    have := bs.old _ _ h1
    omega
  have ne2 : b55 ≠ b3 := by
    rintro rfl
    obtain ⟨e, h1⟩ := B3
    have := bs.old _ _ h1
    omega
  exact ⟨hb53h, hb55h, hne2, o53.1.kp kp ne1, o55.1.kp kp ne2, Mx, hsd2⟩
end

end Go.Proofs.Ythglkcpoofenbaa

/-! Slices that are only read; graphs in the heap; growing slices of edges. -/
namespace Go.Proofs.Ythglkcpoofenbaa
open Go
set_option linter.unusedVariables false
set_option linter.unusedSimpArgs false

/-- The slice v shows vs. -/
def RS (h : H) (v : Value) (vs : List Value) : Prop := ∃ a c, v = .slice a vs.length c ∧ ∀ j x, vs[j]? = some x → ∃ ad, a = some ad ∧ hcell h (ad.add (j * 1)) = some x
section
variable {h h' : H} {v : Value} {vs : List Value}
theorem RS.ext (s : RS h v vs) (x : Ext h h') : RS h' v vs := by
  obtain ⟨a, c, e, k⟩ := s
  refine ⟨a, c, e, fun j y hj => ?_⟩
  obtain ⟨ad, e2, hc⟩ := k j y hj
  exact ⟨ad, e2, x.cell hc⟩
theorem RS.of_sl {b : Nat} (s : Sl h b v vs) : RS h v vs := by
  have g := fun j x (hj : vs[j]? = some x) => s.get hj
  obtain ⟨c, e, zs, h1, h2, h3⟩ := s
  exact ⟨_, c, h1, fun j x hj => ⟨_, rfl, g j x hj⟩⟩
theorem RS.of_S1 {own : Own} {i : Nat} (s : S1 own h i v vs) : RS h v vs := by
  rcases s with ⟨rfl, rfl⟩ | ⟨b, hb, s⟩
  · exact ⟨none, 0, rfl, fun j x hj => by simp at hj⟩
  · exact RS.of_sl s
theorem RS.len {l : Nat} {K : Option Addr → Nat → Nat → Prop} (s : RS h v vs) (hl : vs.length = l) (k : ∀ a c, K a l c) : slcP v K := by
  obtain ⟨a, c, rfl, _⟩ := s
  rw [hl]; exact k _ _
theorem RS.isS (s : RS h v vs) : ∃ a l c, v = .slice a l c := let ⟨a, c, e, _⟩ := s; ⟨a, _, c, e⟩
theorem RS.one (s : RS h v vs) : v.oneCell' = true := slc_one s.isS
theorem RS.at {j : Nat} {x : Value} {K : Addr → Prop} (s : RS h v vs) (hj : vs[j]? = some x) (k : ∀ a : Addr, hcell h a = some x → K a) : ixS v (j : Int) 1 K := by
  obtain ⟨a, c, rfl, g⟩ := s
  obtain ⟨ad, rfl, hc⟩ := g j x hj
  have hl := (List.getElem?_eq_some_iff.1 hj).1
  refine ⟨by omega, by omega, ?_⟩
  rw [Int.toNat_natCast]
  exact k _ hc
theorem RS.rd {j : Nat} {x : Int} {K : Int → Prop} (s : RS h v vs) (hj : vs[j]? = some (.int .i64 x)) (k : K x) : ixS v (j : Int) 1 fun a => ldI h a .i64 K := s.at hj fun a e => ⟨x, e, k⟩
theorem RS.rdI {j n : Nat} {f : Nat → Int} {K : Int → Prop} (s : RS h v (ints n f)) (hj : j < n) (k : K (f j)) : ixS v (j : Int) 1 fun a => ldI h a .i64 K := s.rd (ints_get hj) k
theorem RS.rdB {j n : Nat} {f : Nat → Bool} {K : Bool → Prop} (s : RS h v (bools n f)) (hj : j < n) (k : K (f j)) : ixS v (j : Int) 1 fun a => ldB h a K := s.at (va_get hj) fun a e => ⟨_, e, k⟩
theorem RS.src (s : RS h v vs) : ∃ a c, v = .slice a vs.length c ∧ srcP h a (vs.length * 1) vs := by
  obtain ⟨a, c, rfl, g⟩ := s
  refine ⟨a, c, rfl, by rw [Nat.mul_one], ?_⟩
  cases a with
  | none =>
    cases vs with
    | nil => rfl
    | cons x xs =>
      obtain ⟨ad, e, _⟩ := g 0 x rfl
      cases e
  | some ad =>
    intro j x hj
    obtain ⟨ad', e, hc⟩ := g j x hj
    cases e
    rwa [Nat.mul_one] at hc
end

/-- The edges in a slice. -/
def Gs (h : H) (v : Value) (m : Nat) (es : Nat → Ed) : Prop := ∃ a c, v = .slice a m c ∧ ∀ i, i < m → ∃ ad, a = some ad ∧ hcells h (ad.add (i * 4)) (es i).vs
section
variable {h h' : H} {v : Value} {w : List Value} {n : Int} {m : Nat} {es : Nat → Ed}
theorem GrA.gs (G : GrA h w n m es) : ∃ v, w = [.int .i64 n, v] ∧ Gs h v m es := by
  obtain ⟨a, c, e, k⟩ := G
  exact ⟨_, e, a, c, rfl, k⟩
theorem Gs.gr (s : Gs h v m es) (n : Int) : GrA h [.int .i64 n, v] n m es := by
  obtain ⟨a, c, rfl, k⟩ := s
  exact ⟨a, c, rfl, k⟩
theorem Gs.ext (s : Gs h v m es) (x : Ext h h') : Gs h' v m es := by
  obtain ⟨a, c, e, k⟩ := s
  refine ⟨a, c, e, fun i hi => ?_⟩
  obtain ⟨ad, e2, hc⟩ := k i hi
  exact ⟨ad, e2, fun j v hj => x.cell (hc j v hj)⟩
theorem Gs.len {K : Option Addr → Nat → Nat → Prop} (s : Gs h v m es) (k : ∀ a c, K a m c) : slcP v K := by
  obtain ⟨a, c, rfl, _⟩ := s
  exact k _ _
theorem Gs.isS (s : Gs h v m es) : ∃ a l c, v = .slice a l c := let ⟨a, c, e, _⟩ := s; ⟨a, _, c, e⟩
theorem Gs.at {i : Nat} {K : Addr → Prop} (s : Gs h v m es) (hi : i < m) (k : ∀ a : Addr, hcells h a (es i).vs → K a) : ixS v (i : Int) 4 K := by
  obtain ⟨a, c, rfl, g⟩ := s
  obtain ⟨ad, rfl, hc⟩ := g i hi
  refine ⟨by omega, by omega, ?_⟩
  rw [Int.toNat_natCast]
  exact k _ hc
theorem Gs.e4 {i : Nat} {K : List Value → Prop} (s : Gs h v m es) (hi : i < m) (k : K (es i).vs) : ixS v (i : Int) 4 fun a => ldN h a 4 K := s.at hi fun a hc => ⟨_, rfl, hc, k⟩
theorem Gs.f {i : Nat} {K : Int → Prop} (s : Gs h v m es) (hi : i < m) (k : K (es i).f) : ixS v (i : Int) 4 fun a => ldI h (a.add 0) .i64 K := s.at hi fun a hc => ⟨_, hc 0 _ rfl, k⟩
theorem Gs.t {i : Nat} {K : Int → Prop} (s : Gs h v m es) (hi : i < m) (k : K (es i).t) : ixS v (i : Int) 4 fun a => ldI h (a.add 1) .i64 K := s.at hi fun a hc => ⟨_, hc 1 _ rfl, k⟩
theorem Gs.c {i : Nat} {K : Int → Prop} (s : Gs h v m es) (hi : i < m) (k : K (es i).c) : ixS v (i : Int) 4 fun a => ldI h (a.add 2) .i64 K := s.at hi fun a hc => ⟨_, hc 2 _ rfl, k⟩
theorem Gs.k {i : Nat} {K : Int → Prop} (s : Gs h v m es) (hi : i < m) (k : K (es i).k) : ixS v (i : Int) 4 fun a => ldI h (a.add 3) .i64 K := s.at hi fun a hc => ⟨_, hc 3 _ rfl, k⟩
end

/-! ### Growing slices of edges -/

def edF (es : Nat → Ed) (i j : Nat) : Int := match j with
  | 0 => (es i).f
  | 1 => (es i).t
  | 2 => (es i).c
  | _ => (es i).k
theorem edF_vs (es : Nat → Ed) (i : Nat) : ints 4 (edF es i) = (es i).vs := rfl
theorem ints_add {a b : Nat} {f : Nat → Int} : ints (a + b) f = ints a f ++ ints b fun i => f (a + i) := by
  unfold ints
  rw [List.range_add, List.map_append, List.map_map]
  rfl
theorem recs_snoc {m k : Nat} {st : Nat → Nat → Int} : recs (m + 1) k st = recs m k st ++ ints k (st m) := by
  unfold recs
  rw [Nat.add_mul, Nat.one_mul, ints_add]
  congr 1
  refine ints_ext fun i hi => ?_
  rw [at_div hi, at_mod hi]
theorem recs_ext {m k : Nat} {st st' : Nat → Nat → Int} (h : ∀ i, i < m → ∀ j, st i j = st' i j) : recs m k st = recs m k st' := by
  unfold recs
  refine ints_ext fun i hi => ?_
  rcases Nat.eq_zero_or_pos k with e | e
  · subst e; omega
  · exact h _ (Nat.div_lt_of_lt_mul (by rw [Nat.mul_comm]; exact hi)) _
/-- The slice v holds the first m edges of es; its block is the i-th owner's. -/
def S4 (own : Own) (h : H) (i : Nat) (v : Value) (m : Nat) (es : Nat → Ed) : Prop :=
  (m = 0 ∧ v = .slice none 0 0) ∨ ∃ b c e zs, own b = i ∧ v = .slice (some (bk b)) m c ∧ h b = some (.cells ⟨recs m 4 (edF es) ++ zs⟩ e (0, 0)) ∧ m * 4 + zs.length = c * 4
section
variable {own own' : Own} {h h' : H} {i m : Nat} {v : Value} {es : Nat → Ed}
theorem S4.nil : S4 own h i (.slice none 0 0) 0 es := .inl ⟨rfl, rfl⟩
theorem S4.fm {M : List Nat} (s : S4 own h i v m es) (F : Fm M own h own' h') (hM : i ∉ M) : S4 own' h' i v m es := by
  rcases s with s | ⟨b, c, e, zs, hb, h1, h2, h3⟩
  · exact .inl s
  · exact .inr ⟨b, c, e, zs, (F.stay b _ h2).2.trans hb, h1, F.keep b _ h2 (by rw [hb]; exact hM), h3⟩
theorem S4.nw {b j : Nat} (s : S4 own h i v m es) (x : Ext h h') (hb : h b = none) : S4 (own1 own b j) h' i v m es := s.fm (M := []) (Fm.new x hb) (by simp)
theorem S4.isS (s : S4 own h i v m es) : ∃ a l c, v = .slice a l c := by
  rcases s with ⟨_, rfl⟩ | ⟨b, c, e, zs, hb, rfl, _⟩ <;> exact ⟨_, _, _, rfl⟩
theorem S4.congr {es' : Nat → Ed} (s : S4 own h i v m es) (he : ∀ j, j < m → es' j = es j) : S4 own h i v m es' := by
  rcases s with s | ⟨b, c, e, zs, hb, h1, h2, h3⟩
  · exact .inl s
  · refine .inr ⟨b, c, e, zs, hb, h1, ?_, h3⟩
    rw [recs_ext (st := edF es') (st' := edF es) fun j hj k => by unfold edF; rw [he j hj]]
    exact h2
theorem S4.gs (s : S4 own h i v m es) : Gs h v m es := by
  rcases s with ⟨rfl, rfl⟩ | ⟨b, c, e, zs, hb, rfl, h2, h3⟩
  · exact ⟨none, 0, rfl, fun i hi => by omega⟩
  · refine ⟨_, c, rfl, fun j hj => ⟨_, rfl, fun l x hl => ?_⟩⟩
    have hl4 : l < 4 := by have := (List.getElem?_eq_some_iff.1 hl).1; simpa using this
    rw [bk_add, bk_add2, hcell_at h2, List.getElem?_toArray, List.getElem?_append_left (by rw [recs_length]; exact at_lt hj hl4), recs_get hj hl4]
    rw [← edF_vs, ints_get hl4] at hl
    exact hl
theorem nextcap1_le {sc : Nat} : Builtin.nextslicecap (sc + 1) sc ≤ sc + sc / 4 + 600 := by
  unfold Builtin.nextslicecap
  split
  · omega
  · split
    · omega
    · simp only [Builtin.growBy]
      repeat' split
      all_goals omega
theorem S4.push {ed : Ed} {ex : Nat} {K : Nat → H → Value → H → Prop} {e : Nat} {z0 z1 z2 z3 : Value} (s : S4 own h i v m es) (hm : m ≤ 4398046511104)
    (k : ∀ bx hm p' own' h', h bx = none → Ext h hm → Fm [i] own h own' h' → S4 own' h' i p' (m + 1) (fun j => if j = m then ed else es j) → K bx hm p' h') :
    newP h (.cells ⟨ed.vs⟩ ex (0, 0)) fun bx hm => apP v (.slice (some (bk bx)) 1 1) hm 4 e 32 [z0, z1, z2, z3] (K bx hm) := by
  refine new_put ?_
  intro bx hm' hbx xm hx
  have hsrc : srcP hm' (some (bk bx)) (1 * 4) ed.vs := by
    refine ⟨rfl, fun j v hj => ?_⟩
    rw [bk_add, hcell_at hx, List.getElem?_toArray]
    exact hj
  have hzl : ∀ q, (zrep [z0, z1, z2, z3] q).length = q * 4 := by
    intro q
    unfold zrep
    rw [List.length_flatten]
    simp
  have hvs : recs (m + 1) 4 (edF fun j => if j = m then ed else es j) = recs m 4 (edF es) ++ ed.vs := by
    rw [recs_snoc]
    congr 1
    · refine recs_ext fun j hj l => ?_
      have e : (fun j => if j = m then ed else es j) j = es j := if_neg (by omega)
      unfold edF; rw [e]
    · rw [edF_vs, if_pos rfl]
  rcases s with ⟨rfl, rfl⟩ | ⟨b, c, eb, zs, hob, rfl, h2, h3⟩
  · refine ⟨ed.vs, hsrc, fun hle => by omega, fun hlt => ⟨?_, [], ⟨rfl, rfl⟩, fun cap hcap => ?_⟩⟩
    · have := nextcap_le hlt
      calc _ ≤ (2 * (0 + 1) + 192) * 32 := Nat.mul_le_mul_right _ this
        _ ≤ _ := by omega
    · refine new_put ?_
      intro b g hbn x1 e1
      rw [Nat.zero_add] at e1 hcap ⊢
      refine k bx hm' _ (own1 own b i) g hbx xm (Fm.new (xm.trans' x1) (xm.new hbn)) (.inr ⟨b, cap, e, zrep [z0, z1, z2, z3] (cap - 1), own1_at, rfl, by rw [e1, hvs]; rfl, ?_⟩)
      rw [hzl]; omega
  · have h2m := xm _ _ h2
    have hlen : (recs m 4 (edF es)).length = m * 4 := recs_length _ _ _
    refine ⟨ed.vs, hsrc, fun hle => ⟨fun _ => ?_, ed_one ed, ?_⟩, fun hlt => ⟨?_, recs m 4 (edF es), ⟨hlen, ?_⟩, fun cap hcap => ?_⟩⟩
    · rw [bk_add]
      refine ⟨_, _, h2m, rfl, ?_⟩
      simp only [List.size_toArray, List.length_append, hlen, List.length_cons, List.length_nil]
      omega
    · rw [bk_add]
      have e2 : hset hm' ⟨b, m * 4, none⟩ ed.vs b = some (.cells ⟨recs (m + 1) 4 (edF fun j => if j = m then ed else es j) ++ zs.drop 4⟩ eb (0, 0)) := by
        unfold hset
        rw [if_pos rfl, h2m]
        simp only [Option.map_some]
        rw [setR_list _ _ _ (by simp only [List.length_append, hlen, List.length_cons, List.length_nil]; omega), hvs]
        congr 3
        rw [List.take_append_of_le_length (by omega), List.take_of_length_le (by omega), List.drop_append, List.drop_of_length_le (by simp only [List.length_cons, List.length_nil]; omega)]
        simp [hlen]
      refine k bx hm' _ own _ hbx xm ((Fm.of_ext xm).trans (Fm.kp (b := b) ?_ hob ⟨_, e2⟩)) (.inr ⟨b, c, eb, zs.drop 4, hob, rfl, e2, by rw [List.length_drop]; omega⟩)
      intro j o hj hh
      unfold hset
      rw [if_neg hj]; exact hh
    · have hcm : c = m := by omega
      subst hcm
      calc _ ≤ (c + c / 4 + 600) * 32 := Nat.mul_le_mul_right _ nextcap1_le
        _ ≤ _ := by omega
    · intro j x hj
      rw [bk_add, hcell_at h2m, List.getElem?_toArray]
      have := (List.getElem?_eq_some_iff.1 hj).1
      rw [List.getElem?_append_left this]
      exact hj
    · refine new_put ?_
      intro b' g hbn x1 e1
      refine k bx hm' _ (own1 own b' i) g hbx xm (Fm.new (xm.trans' x1) (xm.new hbn)) (.inr ⟨b', cap, e, zrep [z0, z1, z2, z3] (cap - (m + 1)), own1_at, rfl, by rw [e1, hvs], ?_⟩)
      rw [hzl]; omega
end

end Go.Proofs.Ythglkcpoofenbaa

/-! The document's Out, Cut, Fits, Flows, Max. -/
namespace Go.Proofs.Ythglkcpoofenbaa
open Go
set_option linter.unusedVariables false
set_option linter.unusedSimpArgs false

/-- A graph whose ends are nodes; somewhat larger than Check allows. -/
structure Gw (n m : Nat) (es : Nat → Ed) : Prop where
  n1 : n ≤ 2048
  m1 : m ≤ 16384
  fr : ∀ i, i < m → (es i).f = (frE es i : Nat) ∧ frE es i < n
  to : ∀ i, i < m → (es i).t = (toE es i : Nat) ∧ toE es i < n
  c : ∀ i, i < m → 0 ≤ (es i).c ∧ (es i).c ≤ 1048576
  k : ∀ i, i < m → -1048576 ≤ (es i).k ∧ (es i).k ≤ 1048576
theorem Gd.w {n m : Nat} {es : Nat → Ed} (g : Gd n m es) : Gw n m es :=
  ⟨by have := g.n1; omega, by have := g.m1; omega, fun i hi => g.fr hi, fun i hi => g.to hi, g.c, g.k⟩
theorem Gw.ends {n m : Nat} {es : Nat → Ed} (g : Gw n m es) : ∀ i, i < m → frE es i < n ∧ toE es i < n := fun i hi => ⟨(g.fr i hi).2, (g.to i hi).2⟩
theorem OutF_bd {fr to : Nat → Nat} {f : Nat → Int} {v : Nat} {B : Int} : ∀ {j : Nat}, (∀ i, i < j → -B ≤ f i ∧ f i ≤ B) → 0 ≤ B → -(2 * B * j) ≤ OutF j fr to f v ∧ OutF j fr to f v ≤ 2 * B * j
  | 0, _, hB => by
    have : OutF 0 fr to f v = 0 := rfl
    rw [this]; simp
  | j + 1, h, hB => by
    have ih := OutF_bd (fr := fr) (to := to) (f := f) (v := v) (j := j) (fun i hi => h i (by omega)) hB
    have e : OutF (j + 1) fr to f v = OutF j fr to f v + ((if fr j = v then f j else 0) - (if to j = v then f j else 0)) := rfl
    have hj := h j (by omega)
    have e2 : 2 * B * ((j + 1 : Nat) : Int) = 2 * B * j + 2 * B := by rw [Int.natCast_add, Int.mul_add]; simp
    rw [e, e2]
    generalize 2 * B * (j : Int) = P at *
    constructor <;> (split <;> split <;> omega)

section
variable {h : H} {w : List Value} {n m : Nat} {es : Nat → Ed} {on : Value} {f : Nat → Int}

theorem Out_R (G : GrA h w n m es) (g : Gw n m es) (S : RS h on (ints m f)) (hb : ∀ i, i < m → -1099511627776 ≤ f i ∧ f i ≤ 1099511627776) (v : Nat) :
    T Try.prog F.compassref11_Out [.agg ⟨w⟩, on, .int .i64 v] h fun r h' => r = .ret (.int .i64 (OutF m (frE es) (toE es) f v)) ∧ Ext h h' := by
  refine E_compassref11_Out ?_
  unfold B_compassref11_Out
  refine new_bl ?_
  intro b1 q hb1 x B
  obtain ⟨gv, rfl, Gv⟩ := G.gs
  have m1 := g.m1
  have S := S.ext x
  have Gv := Gv.ext x
  let I : (Int × Int × Unit) → H → Nat → Prop := fun p q2 k => ∃ j : Nat, p.2.1 = j ∧ j ≤ m ∧ k = m - j ∧ p.1 = OutF j (frE es) (toE es) f v ∧ q2 = q
  refine ⟨fun p q => ∃ k, I p q k, rk I, rk_wf I, ⟨_, 0, rfl, by omega, rfl, rfl, rfl⟩, ?_⟩
  intro o p q2 hI
  obtain ⟨j, e1, hj, hk, ho, e2⟩ := mu_spec hI
  generalize hkk : mu I ((o, p, ()), q2) = km at *
  change p = (j : Int) at e1
  change o = OutF j (frE es) (toE es) f v at ho
  change q2 = q at e2
  subst e1 ho e2
  have hlt : j < m → m - (j + 1) < mu I ((OutF j (frE es) (toE es) f v, (j : Int), ()), q2) := fun h => by rw [hkk, hk]; omega
  clear hI
  refine S.len (ints_length _ _) fun _ _ => ?_
  refine ifP_of (fun h1 => ?_) (fun h1 => ?_)
  rotate_left
  · have : j = m := by have := of_decide_eq_false h1; omega
    subst this
    exact ⟨rfl, x⟩
  have hjm : j < m := by have := of_decide_eq_true h1; omega
  have bj := OutF_bd (fr := frE es) (to := toE es) (f := f) (v := v) (j := j) (B := 1099511627776) (fun i hi => hb i (by omega)) (by omega)
  have hbj := hb j hjm
  have ef := g.fr j hjm
  have et := g.to j hjm
  have eS : OutF (j + 1) (frE es) (toE es) f v = OutF j (frE es) (toE es) f v + ((if frE es j = v then f j else 0) - (if toE es j = v then f j else 0)) := rfl
  refine ⟨fun p q => p.1 = OutF j (frE es) (toE es) f v + (if frE es j = v then f j else 0) ∧ q2 = q, ?_, ?_⟩
  · refine ⟨_, B.ld rfl, Gv.f hjm ?_⟩
    rw [ef.1]
    refine ifP_of (fun h2 => ?_) (fun h2 => ?_)
    · have h2 : frE es j = v := by have := of_decide_eq_true h2; omega
      refine S.rdI hjm ⟨?_, rfl⟩
      rw [if_pos h2]
      exact w64_in (by omega) (by omega)
    · have h2 : ¬ frE es j = v := by have := of_decide_eq_false h2; omega
      refine ⟨?_, rfl⟩
      rw [if_neg h2]; show _ = _ + (0 : Int); omega
  · rintro o2 _ ⟨ho2, rfl⟩
    change o2 = _ at ho2
    subst ho2
    refine ⟨_, B.ld rfl, Gv.t hjm ?_⟩
    rw [et.1, i64_inc (by omega)]
    refine ifP_of (fun h2 => ?_) (fun h2 => ?_)
    · have h2 : toE es j = v := by have := of_decide_eq_true h2; omega
      refine S.rdI hjm ?_
      rw [if_pos h2] at eS
      have ew : IntKind.i64.wrap (OutF j (frE es) (toE es) f v + (if frE es j = v then f j else 0) - f j) = OutF (j + 1) (frE es) (toE es) f v := by
        rw [eS]
        have : IntKind.i64.wrap (OutF j (frE es) (toE es) f v + (if frE es j = v then f j else 0) - f j) = OutF j (frE es) (toE es) f v + (if frE es j = v then f j else 0) - f j := w64_in (by split <;> omega) (by split <;> omega)
        rw [this]; omega
      rw [ew]
      exact mu_next (I := I) (k := m - (j + 1)) ⟨j + 1, rfl, hjm, rfl, rfl, rfl⟩ (hlt hjm)
    · have h2 : ¬ toE es j = v := by have := of_decide_eq_false h2; omega
      rw [if_neg h2] at eS
      have ew : OutF j (frE es) (toE es) f v + (if frE es j = v then f j else 0) = OutF (j + 1) (frE es) (toE es) f v := by rw [eS]; omega
      rw [ew]
      exact mu_next (I := I) (k := m - (j + 1)) ⟨j + 1, rfl, hjm, rfl, rfl, rfl⟩ (hlt hjm)

/-- What leaves a side. -/
def cutB (m : Nat) (fr to : Nat → Nat) (cap : Nat → Int) (sd : Nat → Bool) : Int := sumN m fun i => if sd (fr i) = true ∧ sd (to i) = false then cap i else 0
theorem cutB_bd {fr to : Nat → Nat} {cap : Nat → Int} {sd : Nat → Bool} {j : Nat} (h : ∀ i, i < j → 0 ≤ cap i ∧ cap i ≤ 1048576) : 0 ≤ cutB j fr to cap sd ∧ cutB j fr to cap sd ≤ j * 1048576 := by
  refine ⟨sumN_nonneg fun i hi => ?_, sumN_bd fun i hi => ?_⟩
  · have := h i hi; split <;> omega
  · have := h i hi; split <;> omega
theorem Cut_R {side : Value} {sd : Nat → Bool} (G : GrA h w n m es) (g : Gw n m es) (S : RS h side (bools n sd)) :
    T Try.prog F.compassref11_Cut [.agg ⟨w⟩, side] h fun r h' => r = .ret (.int .i64 (cutB m (frE es) (toE es) (cpE es) sd)) ∧ Ext h h' := by
  refine E_compassref11_Cut ?_
  unfold B_compassref11_Cut
  refine new_bl ?_
  intro b1 q hb1 x B
  obtain ⟨gv, rfl, Gv⟩ := G.gs
  have m1 := g.m1
  have S := S.ext x
  have Gv := Gv.ext x
  let I : (Int × Int × Unit) → H → Nat → Prop := fun p q2 k => ∃ j : Nat, p.2.1 = j ∧ j ≤ m ∧ k = m - j ∧ p.1 = cutB j (frE es) (toE es) (cpE es) sd ∧ q2 = q
  refine ⟨fun p q => ∃ k, I p q k, rk I, rk_wf I, ⟨_, 0, rfl, by omega, rfl, rfl, rfl⟩, ?_⟩
  intro o p q2 hI
  obtain ⟨j, e1, hj, hk, ho, e2⟩ := mu_spec hI
  generalize hkk : mu I ((o, p, ()), q2) = km at *
  change p = (j : Int) at e1
  change o = cutB j (frE es) (toE es) (cpE es) sd at ho
  change q2 = q at e2
  subst e1 ho e2
  have hlt : j < m → m - (j + 1) < mu I ((cutB j (frE es) (toE es) (cpE es) sd, (j : Int), ()), q2) := fun h => by rw [hkk, hk]; omega
  clear hI
  refine ⟨_, B.ld rfl, Gv.len fun _ _ => ?_⟩
  refine ifP_of (fun h1 => ?_) (fun h1 => ?_)
  rotate_left
  · have : j = m := by have := of_decide_eq_false h1; omega
    subst this
    exact ⟨rfl, x⟩
  have hjm : j < m := by have := of_decide_eq_true h1; omega
  have bj := cutB_bd (fr := frE es) (to := toE es) (cap := cpE es) (sd := sd) (j := j) fun i hi => g.c i (by omega)
  have ef := g.fr j hjm
  have et := g.to j hjm
  have hcj := g.c j hjm
  have eS : cutB (j + 1) (frE es) (toE es) (cpE es) sd = cutB j (frE es) (toE es) (cpE es) sd + (if sd (frE es j) = true ∧ sd (toE es j) = false then cpE es j else 0) := rfl
  have go : ∀ x, x = cutB (j + 1) (frE es) (toE es) (cpE es) sd → (∃ k, I (x, ((j + 1 : Nat) : Int), ()) q2 k) ∧ rk I ((x, ((j + 1 : Nat) : Int), ()), q2) ((cutB j (frE es) (toE es) (cpE es) sd, (j : Int), ()), q2) := by
    rintro x rfl
    exact mu_next (I := I) (k := m - (j + 1)) ⟨j + 1, rfl, hjm, rfl, rfl, rfl⟩ (hlt hjm)
  refine ⟨_, B.ld rfl, Gv.f hjm ?_⟩
  rw [ef.1, i64_inc (by omega)]
  refine S.rdB ef.2 ?_
  refine ifP_of (fun h2 => ?_) (fun h2 => go _ ?_)
  · refine ⟨_, B.ld rfl, Gv.t hjm ?_⟩
    rw [et.1]
    refine S.rdB et.2 ?_
    refine ifP_of (fun h3 => ?_) (fun h3 => go _ ?_)
    · have h3 : sd (toE es j) = false := by simpa using h3
      refine ⟨_, B.ld rfl, Gv.c hjm (go _ ?_)⟩
      rw [eS, if_pos ⟨h2, h3⟩]
      have hcj2 : 0 ≤ cpE es j ∧ cpE es j ≤ 1048576 := hcj
      show IntKind.i64.wrap (cutB j (frE es) (toE es) (cpE es) sd + cpE es j) = _
      exact w64_in (by omega) (by omega)
    · rw [eS, if_neg (fun h => by rw [h.2] at h3; cases h3)]; omega
  · rw [eS, if_neg (fun h => by rw [h2] at h; cases h.1)]; omega

theorem Fits_R {sup : Value} {sp : Nat → Int} (G : GrA h w n m es) (g : Gw n m es) (S : RS h on (ints m f)) (hb : ∀ i, i < m → 0 ≤ f i ∧ f i ≤ cpE es i) (P : RS h sup (ints n sp))
    (ho : ∀ v, v < n → OutF m (frE es) (toE es) f v = sp v) : T Try.prog F.compassref11_Fits [.agg ⟨w⟩, on, sup] h fun r h' => r = .ret (.bool true) ∧ Ext h h' := by
  refine E_compassref11_Fits ?_
  unfold B_compassref11_Fits
  refine new_bl ?_
  intro b1 q hb1 x B
  obtain ⟨gv, rfl, Gv⟩ := G.gs
  have m1 := g.m1
  have n1 := g.n1
  have S := S.ext x
  have P := P.ext x
  have Gv := Gv.ext x
  refine S.len (ints_length _ _) fun _ _ => ⟨_, B.ld rfl, Gv.len fun _ _ => ?_⟩
  refine ifP_of (fun h => by simp at h) (fun _ => ?_)
  let I : (Int × Unit) → H → Nat → Prop := fun p q2 k => ∃ j : Nat, p.1 = j ∧ j ≤ m ∧ k = m - j ∧ q2 = q
  refine ⟨fun p q => ∃ k, I p q k, rk I, rk_wf I, ⟨_, 0, rfl, by omega, rfl, rfl⟩, ?_⟩
  intro p q2 hI
  obtain ⟨j, e1, hj, hk, e2⟩ := mu_spec hI
  generalize hkk : mu I ((p, ()), q2) = km at *
  change p = (j : Int) at e1
  change q2 = q at e2
  subst e1 e2
  have hlt : j < m → m - (j + 1) < mu I (((j : Int), ()), q2) := fun h => by rw [hkk, hk]; omega
  clear hI
  refine S.len (ints_length _ _) fun _ _ => ?_
  refine ifP_of (fun h1 => ?_) (fun h1 => ?_)
  · have hjm : j < m := by have := of_decide_eq_true h1; omega
    have hbj := hb j hjm
    refine S.rdI hjm (ifP_of (fun h2 => by have := of_decide_eq_true h2; omega) (fun _ => ?_))
    refine S.rdI hjm ⟨_, B.ld rfl, Gv.c hjm (ifP_of (fun h2 => by have := of_decide_eq_true h2; unfold cpE at hbj; omega) (fun _ => ?_))⟩
    rw [i64_inc (by omega)]
    exact mu_next (I := I) (k := m - (j + 1)) ⟨j + 1, rfl, hjm, rfl, rfl⟩ (hlt hjm)
  clear hlt hkk hk h1 hj
  let I24 : (Int × Unit) → H → Nat → Prop := fun p q3 k => ∃ j : Nat, p.1 = j ∧ j ≤ n ∧ k = n - j ∧ Ext q2 q3
  refine ⟨fun p q => ∃ k, I24 p q k, rk I24, rk_wf I24, ⟨_, 0, rfl, by omega, rfl, Ext.refl _⟩, ?_⟩
  intro p q3 hI
  obtain ⟨v, e1, hv, hk, x3⟩ := mu_spec hI
  generalize hkk : mu I24 ((p, ()), q3) = km at *
  change p = (v : Int) at e1
  subst e1
  have hlt : v < n → n - (v + 1) < mu I24 (((v : Int), ()), q3) := fun h => by rw [hkk, hk]; omega
  clear hI
  have B3 := B.ext x3
  refine ⟨_, B3.ld rfl, ifP_of (fun h1 => ?_) (fun h1 => ⟨rfl, x.trans' x3⟩)⟩
  have hvn : v < n := by have := of_decide_eq_true h1; omega
  refine (P.ext x3).at (ints_get hvn) fun a29 ha29 => ?_
  refine B3.ldN rfl ⟨_, ha29, ?_⟩
  refine (Out_R ((Gv.ext x3).gr n) g (S.ext x3) (fun i hi => by have := hb i hi; have := g.c i hi; unfold cpE at *; omega) v).mono ?_
  rintro _ q4 ⟨rfl, x4⟩
  refine rt_ret ⟨_, rfl, sameAt_ext (Ext.refl _) x4 ha29, ?_⟩
  rw [ho v hvn]
  refine ifP_of (fun h => by simp at h) (fun _ => ?_)
  rw [i64_inc (by omega)]
  exact mu_next (I := I24) (k := n - (v + 1)) ⟨v + 1, rfl, hvn, rfl, x3.trans' x4⟩ (hlt hvn)

theorem Flows_R (G : GrA h w n m es) (g : Gw n m es) (S : RS h on (ints m f)) {s t : Nat} (hs : s < n) (ht : t < n) (hst : s ≠ t) (Fl : FlowP n m (frE es) (toE es) (cpE es) s t f) :
    T Try.prog F.compassref11_Flows [.agg ⟨w⟩, .int .i64 s, .int .i64 t, on, .int .i64 (OutF m (frE es) (toE es) f s)] h fun r h' => r = .ret (.bool true) ∧ Ext h h' := by
  refine E_compassref11_Flows ?_
  unfold B_compassref11_Flows
  refine new_bl ?_
  intro b1 q hb1 x B
  obtain ⟨gv, rfl, Gv⟩ := G.gs
  have m1 := g.m1
  have n1 := g.n1
  have hb : ∀ i, i < m → -1048576 ≤ f i ∧ f i ≤ 1048576 := fun i hi => by
    have := Fl.cp i hi
    have := g.c i hi
    unfold cpE at *; omega
  refine ⟨_, B.ld rfl, mk_ints 1 (by omega) (by omega) ?_⟩
  intro b4 q4 hb4 x4 S4
  rw [Int.toNat_natCast]
  have bs : Bs q (own1 (fun _ => 0) b4 1) q4 := Bs.start.new x4 hb4
  have k1 := S4 fun _ => 0
  generalize own1 (fun _ => 0) b4 1 = own at *
  clear S4
  refine k1.setI hs ?_
  intro q7 F7 k1
  have bs := bs.fm F7 (by simp <;> omega)
  refine k1.setI ht ?_
  intro q9 F9 k1
  have bs := bs.fm F9 (by simp <;> omega)
  refine (B.ext bs.ext).ldN rfl ?_
  have xh := x.trans' bs.ext
  have bo := OutF_bd (fr := frE es) (to := toE es) (f := f) (v := s) (j := m) (B := 1048576) hb (by omega)
  have ew : IntKind.i64.wrap (0 - OutF m (frE es) (toE es) f s) = - OutF m (frE es) (toE es) f s := by
    have : IntKind.i64.wrap (0 - OutF m (frE es) (toE es) f s) = 0 - OutF m (frE es) (toE es) f s := w64_in (by omega) (by omega)
    rw [this]; omega
  rw [ew] at k1
  refine (Fits_R ((Gv.ext xh).gr n) g (S.ext xh) Fl.cp (RS.of_S1 k1) ?_).mono ?_
  · intro v hv
    have tot := out_all (f := f) g.ends
    have : sumN n (fun v => OutF m (frE es) (toE es) f v) = OutF m (frE es) (toE es) f s + OutF m (frE es) (toE es) f t := by
      have e : sumN n (fun v => OutF m (frE es) (toE es) f v) = sumN n fun v => (if s = v then OutF m (frE es) (toE es) f s else 0) + (if t = v then OutF m (frE es) (toE es) f t else 0) := sumN_congr fun v hv => by
        by_cases e1 : s = v
        · subst e1; rw [if_pos rfl, if_neg (fun h => hst h.symm)]; omega
        · by_cases e2 : t = v
          · subst e2; rw [if_neg hst, if_pos rfl]; omega
          · rw [if_neg e1, if_neg e2, Fl.cons v hv (fun h => e1 h.symm) (fun h => e2 h.symm)]; rfl
      rw [e, sumN_add, sumN_pt, sumN_pt, if_pos hs, if_pos ht]
    rw [this] at tot
    unfold upd
    by_cases e2 : v = t
    · subst e2; rw [if_pos rfl]; omega
    · rw [if_neg e2]
      by_cases e1 : v = s
      · subst e1; rw [if_pos rfl]
      · rw [if_neg e1]; exact Fl.cons v hv e1 e2
  · rintro _ q12 ⟨rfl, x12⟩
    exact rt_ret ⟨true, rfl, rfl, xh.trans' x12⟩

theorem Max_R {side : Value} {sd : Nat → Bool} (G : GrA h w n m es) (g : Gd n m es) (S : RS h on (ints m f)) (P : RS h side (bools n sd)) {s t : Nat} (hs : s < n) (ht : t < n) (hst : s ≠ t)
    (M : MaxP n m (frE es) (toE es) (cpE es) s t f) (hsd : ∀ v, v < n → (sd v = true ↔ Rch (RsS m (frE es) (toE es) (cpE es) f) s v)) :
    T Try.prog F.compassref11_Max [.agg ⟨w⟩, .int .i64 s, .int .i64 t, on, side] h fun r h' => r = .ret (.tuple ⟨[.int .i64 (OutF m (frE es) (toE es) f s), .int .i64 0]⟩) ∧ Ext h h' := by
  refine E_compassref11_Max ?_
  unfold B_compassref11_Max
  refine new_bl ?_
  intro b1 q hb1 x B
  obtain ⟨gv, rfl, Gv⟩ := G.gs
  refine B.ldN rfl ?_
  refine (Ends_R ((Gv.ext x).gr n) s t).mono ?_
  rintro _ q5 ⟨rfl, x5⟩
  have e0 : endsC n m es s t = 0 := by
    have wC : ∀ x, wrongC n m es x = if 0 ≤ x ∧ x < n then 0 else 30 := fun x => if_pos (by rw [g.no])
    unfold endsC
    rw [wC, wC, if_pos (by omega), if_pos (by omega)]
    show (if (s : Int) = t then (120 : Int) else 0) = 0
    exact if_neg (by omega)
  have xh := x.trans' x5
  have B := B.ext x5
  have S := S.ext xh
  have P := P.ext xh
  have Gv := Gv.ext xh
  rw [e0]
  refine rt_ret ⟨_, rfl, ifP_of (fun h => by simp at h) (fun _ => ?_)⟩
  refine ⟨fun _ q => q5 = q, ?_, ?_⟩
  · refine P.len (bools_length _ _) fun _ _ => ⟨_, B.ld rfl, ifP_of (fun h => by simp at h) (fun _ => ?_)⟩
    refine P.rdB hs (ifP_of (fun h => ?_) (fun _ => ?_))
    · rw [(hsd s hs).2 .refl] at h; cases h
    refine P.rdB ht (ifP_of (fun h => ?_) (fun _ => rfl))
    exact absurd ((hsd t ht).1 h) M.nr
  rintro _ rfl
  refine B.ldN rfl ?_
  refine (Cut_R (Gv.gr n) g.w P).mono ?_
  rintro _ q19 ⟨rfl, x19⟩
  have ec : cutB m (frE es) (toE es) (cpE es) sd = OutF m (frE es) (toE es) f s := by
    rw [M.cut g.ends hs]
    refine sumN_congr fun l hl => ?_
    have e1 := hsd _ (g.fr hl).2
    have e2 := hsd _ (g.to hl).2
    by_cases c1 : sd (frE es l) = true ∧ sd (toE es l) = false
    · rw [if_pos c1, if_pos]
      refine ⟨e1.1 c1.1, fun h => ?_⟩
      have := e2.2 h
      rw [c1.2] at this; cases this
    · rw [if_neg c1, if_neg]
      rintro ⟨r1, r2⟩
      refine c1 ⟨e1.2 r1, ?_⟩
      cases e : sd (toE es l)
      · rfl
      · exact absurd (e2.1 e) r2
  rw [ec]
  refine rt_ret ⟨_, rfl, (B.ext x19).ldN rfl ?_⟩
  refine (Flows_R ((Gv.ext x19).gr n) g.w (S.ext x19) hs ht hst M.fl).mono ?_
  rintro _ q23 ⟨rfl, x23⟩
  refine rt_ret ⟨_, rfl, ifP_of (fun h => by cases h) (fun _ => ⟨rfl, (xh.trans' x19).trans' x23⟩)⟩
end

end Go.Proofs.Ythglkcpoofenbaa

/-! The document's Residual, reach. -/
namespace Go.Proofs.Ythglkcpoofenbaa
open Go
set_option linter.unusedVariables false
set_option linter.unusedSimpArgs false

/-- append(p, q...): q is only read. -/
theorem S1.catR {own : Own} {h : H} {i : Nat} {p q z : Value} {vs ws : List Value} {K : Value → H → Prop} {e bytes : Nat} (s : S1 own h i p vs) (s2 : RS h q ws)
    (one : ∀ v ∈ ws, v.oneCell' = true) (hb : bytes ≤ 8) (hl : vs.length + ws.length < 1000000)
    (k : ∀ p' own' h', Fm [i] own h own' h' → S1 own' h' i p' (vs ++ ws) → K p' h') :
    apP p q h 1 e bytes [z] K := by
  have hzl : ∀ m, (zrep [z] m).length = m := by intro m; simp [zrep]
  obtain ⟨qa, qc, rfl, hsrc⟩ := s2.src
  rcases s with ⟨rfl, rfl⟩ | ⟨b, hob, c, eb, zs, rfl, h2, h3⟩
  · refine ⟨ws, hsrc, fun hle => ?_, fun hlt => ⟨?_, [], ⟨rfl, rfl⟩, fun cap hcap => ?_⟩⟩
    · have : ws = [] := List.length_eq_zero_iff.1 (by omega)
      subst this
      exact ⟨rfl, k _ own h Fm.refl (.inl ⟨rfl, rfl⟩)⟩
    · have := nextcap_le hlt
      calc _ ≤ (2 * (0 + ws.length) + 192) * bytes := Nat.mul_le_mul_right _ this
        _ ≤ (2 * (0 + ws.length) + 192) * 8 := Nat.mul_le_mul_left _ hb
        _ ≤ _ := by simp at hl; omega
    · refine new_put ?_
      intro b g hbn x e1
      rw [Nat.zero_add] at e1 hcap ⊢
      refine k _ (own1 own b i) g (Fm.new x hbn) (.inr ⟨b, own1_at, cap, e, zrep [z] (cap - ws.length), rfl, by rw [e1], ?_⟩)
      rw [hzl]; simp; omega
  · refine ⟨ws, hsrc, fun hle => ⟨fun _ => ?_, one, ?_⟩, fun hlt => ⟨?_, vs, ⟨by rw [Nat.mul_one], ?_⟩, fun cap hcap => ?_⟩⟩
    · rw [bk_add]
      refine ⟨_, _, h2, rfl, ?_⟩
      simp only [List.size_toArray, List.length_append]
      omega
    · rw [bk_add]
      have e2 : hset h ⟨b, vs.length * 1, none⟩ ws b = some (.cells ⟨vs ++ ws ++ zs.drop ws.length⟩ eb (0, 0)) := by
        unfold hset
        rw [if_pos rfl, h2]
        simp only [Option.map_some, Nat.mul_one]
        rw [setR_list _ _ _ (by simp; omega)]
        simp [List.take_append, List.drop_append]
      refine k _ own _ (Fm.kp (b := b) ?_ hob ⟨_, e2⟩) (.inr ⟨b, hob, c, eb, zs.drop ws.length, by simp, e2, by simp; omega⟩)
      intro j o hj hh
      unfold hset
      rw [if_neg hj]; exact hh
    · have := nextcap_le hlt
      calc _ ≤ (2 * (vs.length + ws.length) + 192) * bytes := Nat.mul_le_mul_right _ this
        _ ≤ (2 * (vs.length + ws.length) + 192) * 8 := Nat.mul_le_mul_left _ hb
        _ ≤ _ := by omega
    · intro j v hj
      rw [bk_add, hcell_at h2, List.getElem?_toArray]
      have := (List.getElem?_eq_some_iff.1 hj).1
      rw [List.getElem?_append_left this]
      exact hj
    · refine new_put ?_
      intro b' g hbn x e1
      refine k _ (own1 own b' i) g (Fm.new x hbn) (.inr ⟨b', own1_at, cap, e, zrep [z] (cap - (vs.length + ws.length)), by simp, by rw [e1], ?_⟩)
      rw [hzl]; simp; omega

/-- What can still be changed. -/
def resEd (es : Nat → Ed) (f : Nat → Int) (a : Nat) : Ed :=
  if a % 2 = 0 then ⟨(es (a / 2)).f, (es (a / 2)).t, (es (a / 2)).c - f (a / 2), (es (a / 2)).k⟩ else ⟨(es (a / 2)).t, (es (a / 2)).f, f (a / 2), -(es (a / 2)).k⟩
def resR (cap f : Nat → Int) (a : Nat) : Int := if a % 2 = 0 then cap (a / 2) - f (a / 2) else f (a / 2)
theorem resEd_c (es : Nat → Ed) (f : Nat → Int) (a : Nat) : (resEd es f a).c = resR (cpE es) f a := by
  unfold resEd resR; split <;> rfl
theorem resEd_fr (es : Nat → Ed) (f : Nat → Int) (a : Nat) : frE (resEd es f) a = tlA (frE es) (toE es) a := by
  unfold frE resEd tlA; split <;> rfl
theorem resEd_to (es : Nat → Ed) (f : Nat → Int) (a : Nat) : toE (resEd es f) a = hdA (frE es) (toE es) a := by
  unfold toE resEd hdA; split <;> rfl
theorem resEd_even (es : Nat → Ed) (f : Nat → Int) (i : Nat) : resEd es f (2 * i) = ⟨(es i).f, (es i).t, (es i).c - f i, (es i).k⟩ := by
  unfold resEd; rw [if_pos (by omega), show 2 * i / 2 = i by omega]
theorem resEd_odd (es : Nat → Ed) (f : Nat → Int) (i : Nat) : resEd es f (2 * i + 1) = ⟨(es i).t, (es i).f, f i, -(es i).k⟩ := by
  unfold resEd; rw [if_neg (by omega), show (2 * i + 1) / 2 = i by omega]

section
variable {h : H} {w : List Value} {n m : Nat} {es : Nat → Ed} {on : Value} {f : Nat → Int}
theorem Residual_R (G : GrA h w n m es) (g : Gw n m es) (S : RS h on (ints m f)) (hb : ∀ i, i < m → 0 ≤ f i ∧ f i ≤ cpE es i) :
    T Try.prog F.compassref11_Residual [.agg ⟨w⟩, on] h fun r h' => ∃ v, r = .ret (.agg ⟨[.int .i64 n, v]⟩) ∧ Ext h h' ∧ Gs h' v (2 * m) (resEd es f) := by
  refine E_compassref11_Residual ?_
  unfold B_compassref11_Residual
  have m1 := g.m1
  obtain ⟨gv, rfl, Gv⟩ := G.gs
  refine new_bl ?_
  intro b1 q1 hb1 x1 B
  refine new_bl ?_
  intro b3 q3 hb3 x3 B3
  refine ⟨_, (B.ext x3).ld rfl, ?_⟩
  refine new_bl_st rfl rfl (by simp [Value.oneCell']) ?_
  intro b6 q8 hb6 x8 B6
  have bs : Bs q3 (own1 (fun _ => 0) b6 4) q8 := Bs.start.new x8 hb6
  have k4 : B1 (own1 (fun _ => 0) b6 4) q8 4 b6 [.int .i64 n, .slice none 0 0] := B1.new B6
  have Bq := B.ext x3
  have x13 := x1.trans' x3
  have Sq3 := S.ext x13
  have Gq3 := Gv.ext x13
  let I : (Int × Unit) → H → Nat → Prop := fun p q k => ∃ (j : Nat) (own : Own) (v : Value), p.1 = j ∧ j ≤ m ∧ k = m - j ∧ Bs q3 own q ∧ B1 own q 4 b6 [.int .i64 n, v] ∧ S4 own q 1 v (2 * j) (resEd es f)
  refine ⟨fun p q => ∃ k, I p q k, rk I, rk_wf I, ⟨_, 0, _, _, rfl, by omega, rfl, bs, k4, S4.nil⟩, ?_⟩
  clear bs k4
  intro p q hI
  obtain ⟨j, own, v, e1, hj, hk, bs, k4, k1⟩ := mu_spec hI
  generalize hkk : mu I ((p, ()), q) = km at *
  change p = (j : Int) at e1
  subst e1
  have hlt : j < m → m - (j + 1) < mu I (((j : Int), ()), q) := fun h => by rw [hkk, hk]; omega
  clear hI
  have Bz := Bq.ext bs.ext
  have Gz := Gq3.ext bs.ext
  have Sz := Sq3.ext bs.ext
  refine ⟨_, Bz.ld rfl, Gz.len fun _ _ => ?_⟩
  refine ifP_of (fun h1 => ?_) (fun h1 => ?_)
  · have hjm : j < m := by have := of_decide_eq_true h1; omega
    have hcj := g.c j hjm
    have hkj := g.k j hjm
    have hbj : 0 ≤ f j ∧ f j ≤ (es j).c := hb j hjm
    refine ⟨_, Bz.ld rfl, Gz.e4 hjm ?_⟩
    refine new_bl_st rfl rfl (ed_one _) ?_
    intro b20 q22 hb20 x22 B20
    have bs := bs.new (i := 8) x22 hb20
    have k4 := k4.nw (j := 8) x22 hb20
    have k1 := k1.nw (j := 8) x22 hb20
    have k8 : B1 (own1 own b20 8) q22 8 b20 (es j).vs := B1.new B20
    generalize own1 own b20 8 = own at *
    have Sz := Sz.ext x22
    refine Sz.at (ints_get hjm) fun a23 ha23 => ?_
    refine ⟨_, k4.ld rfl, _, k8.ld rfl, _, k8.ld rfl, _, k8.ld rfl, _, ha23, _, k8.ld rfl, rfl, ?_⟩
    have ew : IntKind.i64.wrap ((es j).c - f j) = (es j).c - f j := w64_in (by omega) (by omega)
    have ek : IntKind.i64.wrap (0 - (es j).k) = -(es j).k := by
      have : IntKind.i64.wrap (0 - (es j).k) = 0 - (es j).k := w64_in (by omega) (by omega)
      rw [this]; omega
    rw [ew]
    refine S4.push (ed := ⟨(es j).f, (es j).t, (es j).c - f j, (es j).k⟩) k1 (by omega) ?_
    intro _ _ v2 own2 q33 _ _ F k1
    have bs := bs.fm F (by simp <;> omega)
    have k4 := k4.fm F (by simp <;> omega)
    have k8 := k8.fm F (by simp <;> omega)
    refine oneP_slc k1.isS (k4.st (by simp) ?_)
    intro q34 F2 k4
    simp only [List.set] at k4
    have bs := bs.fm F2 (by simp <;> omega)
    have k8 := k8.fm F2 (by simp <;> omega)
    have k1 := k1.fm F2 (by simp <;> omega)
    have Sz := Sq3.ext bs.ext
    refine Sz.at (ints_get hjm) fun a35 ha35 => ?_
    refine ⟨_, k4.ld rfl, _, k8.ld rfl, _, k8.ld rfl, _, ha35, _, k8.ld rfl, rfl, ?_⟩
    rw [ek]
    refine S4.push (ed := ⟨(es j).t, (es j).f, f j, -(es j).k⟩) k1 (by omega) ?_
    intro _ _ v3 own3 q44 _ _ F k1
    have bs := bs.fm F (by simp <;> omega)
    have k4 := k4.fm F (by simp <;> omega)
    have k8 := k8.fm F (by simp <;> omega)
    refine oneP_slc k1.isS (k4.st (by simp) ?_)
    intro q45 F2 k4
    simp only [List.set] at k4
    have bs := bs.fm F2 (by simp <;> omega)
    have k8 := k8.fm F2 (by simp <;> omega)
    have k1 := k1.fm F2 (by simp <;> omega)
    rw [i64_inc (by omega)]
    refine mu_next (I := I) (k := m - (j + 1)) ⟨j + 1, own3, v3, rfl, hjm, rfl, bs, k4, ?_⟩ (hlt hjm)
    refine S4.congr k1 fun l hl => ?_
    by_cases e1 : l = 2 * j + 1
    · subst e1; rw [if_pos rfl, resEd_odd]
    · rw [if_neg e1]
      by_cases e2 : l = 2 * j
      · subst e2; rw [if_pos rfl, resEd_even]
      · rw [if_neg e2]
  · have : j = m := by have := of_decide_eq_false h1; omega
    subst this
    refine k4.ldN rfl ?_
    have B3q := B3.ext bs.ext
    refine B3q.stN rfl rfl (by simp [Value.oneCell', k1.isS, slc_one]; exact slc_one k1.isS) ?_
    intro q47 kp B3q
    refine B3q.ldN rfl ⟨v, rfl, ((x1.trans' x3).trans' bs.ext).of_kp kp (x1.new hb3), ?_⟩
    have nb : own b3 ≠ 1 := by
      obtain ⟨e, h1⟩ := B3
      rw [bs.old _ _ h1]; simp
    have F : Fm [0] own q own q47 := Fm.kp kp (by obtain ⟨e, h1⟩ := B3; exact bs.old _ _ h1) (let ⟨e, k⟩ := B3q; ⟨_, k⟩)
    exact (k1.fm F (by simp)).gs

/-- What reach tells. -/
structure RchP (n M : Nat) (es : Nat → Ed) (s : Nat) (via : Nat → Int) (rank : Nat → Nat) : Prop where
  src : via s = -1
  cs : ∀ v, v < n → via v = -2 ∨ (v = s ∧ via v = -1) ∨ ∃ a : Nat, a < M ∧ via v = a ∧ toE es a = v ∧ 0 < (es a).c ∧ via (frE es a) ≠ -2 ∧ rank (frE es a) < rank v
  rk : ∀ v, v < n → via v ≠ -2 → rank v < n
  cl : ∀ a, a < M → 0 < (es a).c → via (frE es a) ≠ -2 → via (toE es a) ≠ -2
/-- While it is looked for. -/
structure RcI (n M : Nat) (es : Nat → Ed) (s : Nat) (via : Nat → Int) (rank : Nat → Nat) : Prop where
  src : via s = -1
  cs : ∀ v, v < n → via v = -2 ∨ (v = s ∧ via v = -1) ∨ ∃ a : Nat, a < M ∧ via v = a ∧ toE es a = v ∧ 0 < (es a).c ∧ via (frE es a) ≠ -2 ∧ rank (frE es a) < rank v
  rk : ∀ v, v < n → via v ≠ -2 → (rank v : Int) < n - cntH n via (-2)
/-- The first i edges lead to nothing new. -/
def SatE (es : Nat → Ed) (via : Nat → Int) (i : Nat) : Prop := ∀ j, j < i → 0 < (es j).c → via (frE es j) ≠ -2 → via (toE es j) ≠ -2
theorem RcI.next {M s : Nat} {via : Nat → Int} {rank : Nat → Nat} (L : RcI n M es s via rank) (hE : ∀ i, i < M → frE es i < n ∧ toE es i < n) {i : Nat} (hi : i < M) (hc : 0 < (es i).c)
    (hf : via (frE es i) ≠ -2) (ht : via (toE es i) = -2) : ∃ rank', RcI n M es s (upd via (toE es i) i) rank' ∧ cntH n (upd via (toE es i) i) (-2) = cntH n via (-2) - 1 := by
  obtain ⟨hfn, htn⟩ := hE i hi
  have hcnt : cntH n (upd via (toE es i) i) (-2) = cntH n via (-2) - 1 := by
    rw [cntH_upd htn, ht, if_pos rfl, if_neg (by omega)]; omega
  have hb := cntH_bd (n := n) (ht := via) (k := -2)
  have hb2 := cntH_bd (n := n) (ht := upd via (toE es i) i) (k := -2)
  have keep : ∀ v, via v ≠ -2 → v ≠ toE es i := by rintro v hv rfl; exact hv ht
  refine ⟨fun v => if v = toE es i then ((n : Int) - cntH n via (-2)).toNat else rank v, ⟨?_, ?_, ?_⟩, hcnt⟩
  · rw [upd_ne (keep s (by rw [L.src]; omega))]; exact L.src
  · intro v hv
    by_cases e : v = toE es i
    · subst e
      refine .inr (.inr ⟨i, hi, upd_at, rfl, hc, by rw [upd_ne (keep _ hf)]; exact hf, ?_⟩)
      rw [if_pos rfl, if_neg (keep _ hf)]
      have := L.rk _ hfn hf
      omega
    · rw [upd_ne e]
      rcases L.cs v hv with h | h | ⟨a, h1, h2, h3, h4, h5, h6⟩
      · exact .inl h
      · exact .inr (.inl h)
      · exact .inr (.inr ⟨a, h1, h2, h3, h4, by rw [upd_ne (keep _ h5)]; exact h5, by rw [if_neg (keep _ h5), if_neg e]; exact h6⟩)
  · intro v hv h
    rw [hcnt]
    by_cases e : v = toE es i
    · subst e; rw [if_pos rfl]; omega
    · rw [if_neg e]
      rw [upd_ne e] at h
      have := L.rk v hv h
      omega

theorem reach_R {M : Nat} (G : GrA h w n M es) (hE1 : ∀ i, i < M → (es i).f = (frE es i : Nat) ∧ frE es i < n) (hE2 : ∀ i, i < M → (es i).t = (toE es i : Nat) ∧ toE es i < n) (n1 : n ≤ 4096) (m1 : M ≤ 100000) {s : Nat} (hs : s < n) :
    T Try.prog F.compassref11_reach [.agg ⟨w⟩, .int .i64 s] h fun r h' => ∃ v via rank, r = .ret v ∧ Ext h h' ∧ RS h' v (ints n via) ∧ RchP n M es s via rank := by
  refine E_compassref11_reach ?_
  unfold B_compassref11_reach
  obtain ⟨gv, rfl, Gv⟩ := G.gs
  have hE : ∀ i, i < M → frE es i < n ∧ toE es i < n := fun i hi => ⟨(hE1 i hi).2, (hE2 i hi).2⟩
  refine new_bl ?_
  intro b1 q1 hb1 x1 B
  refine ⟨_, B.ld rfl, mk_ints 1 (by omega) (by omega) ?_⟩
  intro b4 q4 hb4 x4 S4
  rw [Int.toNat_natCast]
  have bs : Bs q1 (own1 (fun _ => 0) b4 1) q4 := Bs.start.new x4 hb4
  have k1 := S4 fun _ => 0
  generalize own1 (fun _ => 0) b4 1 = own at *
  clear S4 x4 hb4
  have Gv := Gv.ext x1
  let I0 : (Int × Unit) → H → Nat → Prop := fun p q k => ∃ i : Nat, p.1 = i ∧ i ≤ n ∧ k = n - i ∧ Bs q1 own q ∧ S1 own q 1 (slV b4 n) (ints n fun v => if v < i then -2 else 0)
  refine ⟨fun p q => ∃ k, I0 p q k, rk I0, rk_wf I0, ⟨_, 0, rfl, by omega, rfl, bs, by simpa using k1⟩, ?_⟩
  clear bs k1
  intro p q hI
  obtain ⟨i, e1, hi, hk, bs, k1⟩ := mu_spec hI
  generalize hkk : mu I0 ((p, ()), q) = k at *
  change p = (i : Int) at e1
  subst e1
  have hlt : i < n → n - (i + 1) < mu I0 (((i : Int), ()), q) := fun h => by rw [hkk, hk]; omega
  clear hI
  refine ⟨_, (B.ext bs.ext).ld rfl, ?_⟩
  refine ifP_of (fun h1 => ?_) (fun h1 => ?_)
  · have him : i < n := by have := of_decide_eq_true h1; omega
    refine k1.setI him ?_
    intro g F k1
    have bs := bs.fm F (by simp <;> omega)
    rw [i64_inc (by omega)]
    exact mu_next (I := I0) (k := n - (i + 1)) ⟨i + 1, rfl, him, rfl, bs, by rw [upd_lt]; exact k1⟩ (hlt him)
  have : i = n := by have := of_decide_eq_false h1; omega
  subst this
  clear hlt hkk hk h1 hi
  refine k1.setI hs ?_
  intro q14 F k1
  have bs := bs.fm F (by simp <;> omega)
  -- rounds
  let I15 : (Int × Unit) → H → Nat → Prop := fun p q k => ∃ (r : Nat) (via : Nat → Int) (rank : Nat → Nat), p.1 = r ∧ r ≤ i ∧ k = i - r ∧ Bs q1 own q ∧ S1 own q 1 (slV b4 i) (ints i via) ∧ RcI i M es s via rank ∧
    (SatE es via M ∨ (r : Int) + 1 ≤ i - cntH i via (-2))
  refine ⟨fun p q => ∃ k, I15 p q k, rk I15, rk_wf I15, ⟨_, 0, _, fun _ => 0, rfl, by omega, rfl, bs, k1, ?_, .inr ?_⟩, ?_⟩
  · have u2 : ∀ v, v < i → v ≠ s → upd (fun v => if v < i then (-2 : Int) else 0) s (-1) v = -2 := fun v hv hne => by rw [upd_ne hne]; exact if_pos hv
    refine ⟨upd_at, fun v hv => ?_, fun v hv h => ?_⟩
    · by_cases e : v = s
      · subst e; exact .inr (.inl ⟨rfl, upd_at⟩)
      · exact .inl (u2 v hv e)
    · have : v = s := by
        apply Classical.byContradiction
        intro e; exact h (u2 v hv e)
      rw [cntH_upd hs, if_pos hs, if_pos rfl, if_neg (by omega)]
      have hb := cntH_bd (n := i) (ht := fun v => if v < i then (-2 : Int) else 0) (k := -2)
      simp; omega
  · rw [cntH_upd hs, if_pos hs, if_pos rfl, if_neg (by omega)]
    have hb := cntH_bd (n := i) (ht := fun v => if v < i then (-2 : Int) else 0) (k := -2)
    simp; omega
  clear bs k1 F
  intro p q hI
  obtain ⟨r, via, rank, e1, hr, hk, bs, k1, L, hsat⟩ := mu_spec hI
  generalize hkk : mu I15 ((p, ()), q) = k at *
  change p = (r : Int) at e1
  subst e1
  have hlt : r < i → i - (r + 1) < mu I15 (((r : Int), ()), q) := fun h => by rw [hkk, hk]; omega
  clear hI
  refine ⟨_, (B.ext bs.ext).ld rfl, ?_⟩
  refine ifP_of (fun h1 => ?_) (fun h1 => ?_)
  rotate_left
  · have : r = i := by have := of_decide_eq_false h1; omega
    subst this
    have hb := cntH_bd (n := r) (ht := via) (k := -2)
    refine ⟨_, via, rank, rfl, x1.trans' bs.ext, RS.of_S1 k1, L.src, L.cs, fun v hv h => ?_, ?_⟩
    · have := L.rk v hv h; omega
    · rcases hsat with h | h
      · exact h
      · omega
  have hri : r < i := by have := of_decide_eq_true h1; omega
  let I20 : (Int × Unit) → H → Nat → Prop := fun p q k => ∃ (j : Nat) (via : Nat → Int) (rank : Nat → Nat), p.1 = j ∧ j ≤ M ∧ k = M - j ∧ Bs q1 own q ∧ S1 own q 1 (slV b4 i) (ints i via) ∧ RcI i M es s via rank ∧
    (SatE es via M ∨ ((r : Int) + 1 ≤ i - cntH i via (-2) ∧ SatE es via j) ∨ (r : Int) + 2 ≤ i - cntH i via (-2))
  refine ⟨fun p q => ∃ k, I20 p q k, rk I20, rk_wf I20, ⟨_, 0, via, rank, rfl, by omega, rfl, bs, k1, L, ?_⟩, ?_⟩
  · rcases hsat with h | h
    · exact .inl h
    · exact .inr (.inl ⟨h, fun j hj => by omega⟩)
  clear bs k1 L hsat via rank
  intro p q2 hI
  obtain ⟨j, via, rank, e1, hj, hk2, bs, k1, L, hsat⟩ := mu_spec hI
  generalize hkk2 : mu I20 ((p, ()), q2) = k2 at *
  change p = (j : Int) at e1
  subst e1
  have hlt2 : j < M → M - (j + 1) < mu I20 (((j : Int), ()), q2) := fun h => by rw [hkk2, hk2]; omega
  clear hI
  refine ⟨_, (B.ext bs.ext).ld rfl, (Gv.ext bs.ext).len fun _ _ => ?_⟩
  refine ifP_of (fun h2 => ?_) (fun h2 => ?_)
  rotate_left
  · have : j = M := by have := of_decide_eq_false h2; omega
    subst this
    rw [i64_inc (by omega)]
    refine mu_next (I := I15) (k := i - (r + 1)) ⟨r + 1, via, rank, rfl, hri, rfl, bs, k1, L, ?_⟩ (hlt hri)
    rcases hsat with h | ⟨h, h'⟩ | h
    · exact .inl h
    · exact .inl h'
    · exact .inr (by omega)
  have hjm : j < M := by have := of_decide_eq_true h2; omega
  refine ⟨_, (B.ext bs.ext).ld rfl, (Gv.ext bs.ext).e4 hjm ?_⟩
  refine new_bl_st rfl rfl (ed_one _) ?_
  intro b31 q33 hb31 x33 B31
  have bs := bs.ext_ x33
  have k1 := k1.ext x33
  have go : ∀ {q4 : H} {via' : Nat → Int} {rank' : Nat → Nat}, Bs q1 own q4 → S1 own q4 1 (slV b4 i) (ints i via') → RcI i M es s via' rank' →
      (SatE es via' M ∨ ((r : Int) + 1 ≤ i - cntH i via' (-2) ∧ SatE es via' (j + 1)) ∨ (r : Int) + 2 ≤ i - cntH i via' (-2)) →
      (∃ k, I20 (((j + 1 : Nat) : Int), ()) q4 k) ∧ rk I20 ((((j + 1 : Nat) : Int), ()), q4) (((j : Int), ()), q2) := fun bs k1 L hsat =>
    mu_next (I := I20) (k := M - (j + 1)) ⟨j + 1, _, _, rfl, hjm, rfl, bs, k1, L, hsat⟩ (hlt2 hjm)
  have same : (0 < (es j).c → via (frE es j) ≠ -2 → via (toE es j) ≠ -2) →
      (∃ k, I20 (((j + 1 : Nat) : Int), ()) q33 k) ∧ rk I20 ((((j + 1 : Nat) : Int), ()), q33) (((j : Int), ()), q2) := by
    intro hs'
    refine go bs k1 L ?_
    rcases hsat with h | ⟨h, h'⟩ | h
    · exact .inl h
    · refine .inr (.inl ⟨h, fun l hl => ?_⟩)
      by_cases e : l = j
      · subst e; exact hs'
      · exact h' l (by omega)
    · exact .inr (.inr h)
  rw [i64_inc (by omega)]
  refine ⟨_, B31.ed.2.2.1, ifP_of (fun h3 => ?_) (fun h3 => same fun h => absurd h (of_decide_eq_false h3))⟩
  have h3 := of_decide_eq_true h3
  obtain ⟨ef, efn⟩ := hE1 j hjm
  obtain ⟨et, etn⟩ := hE2 j hjm
  refine ⟨_, B31.ed.1, ?_⟩
  rw [ef]
  have vcase : ∀ v, v < i → via v = -2 ∨ -1 ≤ via v := by
    intro v hv
    rcases L.cs v hv with h | h | ⟨a, _, h, _⟩
    · exact .inl h
    · exact .inr (by omega)
    · exact .inr (by omega)
  refine k1.rdI efn (ifP_of (fun h4 => ?_) (fun h4 => same fun _ h => absurd h (by
    have := of_decide_eq_false h4
    rcases vcase _ efn with h | h
    · exact fun k => k h
    · exact absurd h this)))
  have h4 := of_decide_eq_true h4
  refine ⟨_, B31.ed.2.1, ?_⟩
  rw [et]
  refine k1.rdI etn (ifP_of (fun h5 => ?_) (fun h5 => same fun _ _ => of_decide_eq_false h5))
  have h5 := of_decide_eq_true h5
  refine ⟨_, B31.ed.2.1, ?_⟩
  rw [et]
  refine k1.setI etn ?_
  intro q43 F k1
  have bs := bs.fm F (by simp <;> omega)
  obtain ⟨rank', L', hc'⟩ := L.next hE hjm h3 (by omega) h5
  refine go bs k1 L' (.inr (.inr ?_))
  rcases hsat with h | ⟨h, _⟩ | h
  · exact absurd h5 (h j hjm h3 (by omega))
  · omega
  · omega
end

end Go.Proofs.Ythglkcpoofenbaa

/-! The document's room, change, MaxFlow, Value. -/
namespace Go.Proofs.Ythglkcpoofenbaa
open Go
set_option linter.unusedVariables false
set_option linter.unusedSimpArgs false

/-! ### Along a way: the plain law -/

def chgS (f : Nat → Int) (a : Nat) (x : Int) : Nat → Int := upd f (a / 2) (if a % 2 = 0 then f (a / 2) + x else f (a / 2) - x)
def chgF (f : Nat → Int) (l : List Nat) (x : Int) : Nat → Int := l.foldl (fun f a => chgS f a x) f
def sndF (room : Nat → Int) (l : List Nat) (x : Int) : Nat → Int := l.foldl (fun r a => sndR r a x) room
theorem onR_snd (room : Nat → Int) (a : Nat) (x : Int) : onR (sndR room a x) = chgS (onR room) a x := by
  funext i
  unfold chgS
  by_cases e : i = a / 2
  · subst e
    rw [upd_at]
    unfold onR
    by_cases h : a % 2 = 0
    · rw [if_pos h]
      have e2 : 2 * (a / 2) + 1 = prA a := by unfold prA; rw [if_pos h]; omega
      rw [e2, sndR_p]
    · rw [if_neg h]
      have e2 : 2 * (a / 2) + 1 = a := by omega
      rw [e2, sndR_a]
  · rw [upd_ne e]
    unfold onR
    rw [sndR_o (by omega) (by unfold prA; split <;> omega)]
theorem onR_sndF : ∀ (l : List Nat) (room : Nat → Int) (x : Int), onR (sndF room l x) = chgF (onR room) l x
  | [], _, _ => rfl
  | a :: l, room, x => by
    show onR (sndF (sndR room a x) l x) = chgF (chgS (onR room) a x) l x
    rw [onR_sndF l, onR_snd]
theorem onR_res {cap f : Nat → Int} : onR (resR cap f) = f := by
  funext i
  unfold onR resR
  rw [if_neg (by omega), show (2 * i + 1) / 2 = i by omega]
theorem resR_ok {m : Nat} {cap f : Nat → Int} (h : ∀ i, i < m → 0 ≤ f i ∧ f i ≤ cap i) : RmP m cap (resR cap f) := by
  refine ⟨fun a ha => ?_, fun i hi => ?_⟩
  · have := h (a / 2) (by omega)
    unfold resR; split <;> omega
  · unfold resR
    rw [if_pos (by omega), if_neg (by omega), show 2 * i / 2 = i by omega, show (2 * i + 1) / 2 = i by omega]; omega
/-- A way back from a node, each arc from lower rank. -/
inductive ViaP (tl hd : Nat → Nat) (rk : Nat → Nat) (s : Nat) : Nat → List Nat → Prop
  | nil : ViaP tl hd rk s s []
  | cons {a : Nat} {l : List Nat} : rk (tl a) < rk (hd a) → ViaP tl hd rk s (tl a) l → ViaP tl hd rk s (hd a) (a :: l)
theorem ViaP.hd_le {tl hd rk : Nat → Nat} {s v : Nat} {l : List Nat} (p : ViaP tl hd rk s v l) : ∀ a ∈ l, rk (hd a) ≤ rk v := by
  induction p with
  | nil => intro a ha; cases ha
  | cons h p ih =>
    intro b hb
    rcases List.mem_cons.1 hb with rfl | hb
    · exact Nat.le_refl _
    · have := ih b hb; omega
theorem ViaP.tl_lt {tl hd rk : Nat → Nat} {s v : Nat} {l : List Nat} (p : ViaP tl hd rk s v l) : ∀ a ∈ l, rk (tl a) < rk (hd a) := by
  induction p with
  | nil => intro a ha; cases ha
  | cons h p ih =>
    intro b hb
    rcases List.mem_cons.1 hb with rfl | hb
    · exact h
    · exact ih b hb
theorem ViaP.snoc {tl hd rk : Nat → Nat} {s t v : Nat} {l : List Nat} (p : ∀ l2, ViaP tl hd rk s v l2 → ViaP tl hd rk s t (l ++ l2)) {a : Nat} (hv : hd a = v) (h : rk (tl a) < rk (hd a)) :
    ∀ l2, ViaP tl hd rk s (tl a) l2 → ViaP tl hd rk s t ((l ++ [a]) ++ l2) := by
  intro l2 q
  rw [List.append_assoc]
  refine p _ ?_
  subst hv
  exact .cons h q
theorem aug {m : Nat} {fr to : Nat → Nat} {cap : Nat → Int} {rk : Nat → Nat} {s : Nat} {x : Int} (hx : 0 ≤ x) {v : Nat} {l : List Nat} (p : ViaP (tlA fr to) (hdA fr to) rk s v l) : ∀ (room : Nat → Int), RmP m cap room →
    (∀ a ∈ l, a < 2 * m ∧ x ≤ room a) → RmP m cap (sndF room l x) ∧ ∀ u, OutF m fr to (onR (sndF room l x)) u = OutF m fr to (onR room) u + (if s = u then x else 0) - (if v = u then x else 0) := by
  induction p with
  | nil => intro room R h; exact ⟨R, fun u => by show OutF m fr to (onR room) u = _; omega⟩
  | @cons a l h p ih =>
    intro room R hl
    obtain ⟨ha, hxa⟩ := hl a (List.mem_cons_self ..)
    have R1 := R.snd ha hx hxa
    obtain ⟨R2, o2⟩ := ih (sndR room a x) R1 fun b hb => by
      obtain ⟨h1, h2⟩ := hl b (List.mem_cons_of_mem _ hb)
      have n1 : b ≠ a := by
        rintro rfl
        have := p.hd_le b hb
        omega
      have n2 : b ≠ prA a := by
        rintro rfl
        have := p.hd_le _ hb
        have := p.tl_lt _ hb
        rw [tl_pr, hd_pr] at *
        omega
      exact ⟨h1, by rw [sndR_o n1 n2]; exact h2⟩
    refine ⟨R2, fun u => ?_⟩
    have e : sndF room (a :: l) x = sndF (sndR room a x) l x := rfl
    rw [e, o2, out_snd ha]
    split <;> split <;> split <;> omega

section
variable {h : H} {w : List Value} {n M m : Nat} {es : Nat → Ed} {on list : Value} {f : Nat → Int} {l : List Nat}
theorem room_R (G : GrA h w n M es) (hl : l ≠ []) (hl2 : l.length < 1000000) (hm : ∀ a ∈ l, a < M) (S : RS h list (natV l)) :
    T Try.prog F.compassref11_room [.agg ⟨w⟩, list] h fun r h' => ∃ x, r = .ret (.int .i64 x) ∧ Ext h h' ∧ (∀ a ∈ l, x ≤ (es a).c) ∧ ∃ a ∈ l, x = (es a).c := by
  refine E_compassref11_room ?_
  unfold B_compassref11_room
  obtain ⟨gv, rfl, Gv⟩ := G.gs
  refine new_bl ?_
  intro b1 q1 hb1 x1 B
  have Gv := Gv.ext x1
  have S := S.ext x1
  have hpos : 0 < l.length := List.length_pos_iff.2 hl
  refine S.at (j := 0) (natV_get hpos) fun a3 ha3 => ?_
  refine ⟨_, B.ld rfl, _, ha3, Gv.c (hm _ (List.getElem_mem hpos)) ?_⟩
  let I : (Int × Int × Unit) → H → Nat → Prop := fun p q k => ∃ j : Nat, p.2.1 = j ∧ 1 ≤ j ∧ j ≤ l.length ∧ k = l.length - j ∧ q = q1 ∧ (∀ a ∈ l.take j, p.1 ≤ (es a).c) ∧ ∃ a ∈ l, p.1 = (es a).c
  refine ⟨fun p q => ∃ k, I p q k, rk I, rk_wf I, ⟨_, 1, rfl, by omega, by omega, rfl, rfl, fun a ha => ?_, _, List.getElem_mem hpos, rfl⟩, ?_⟩
  · have : l.take 1 = [l[0]] := by
      have := List.take_succ_eq_append_getElem hpos
      simpa using this
    rw [this, List.mem_singleton] at ha
    subst ha
    exact Int.le_refl _
  intro x p q hI
  obtain ⟨j, e1, hj1, hj, hk, e2, hx1, hx2⟩ := mu_spec hI
  generalize hkk : mu I ((x, p, ()), q) = k at *
  change p = (j : Int) at e1
  change q = q1 at e2
  subst e1 e2
  have hlt : j < l.length → l.length - (j + 1) < mu I ((x, (j : Int), ()), q) := fun h => by rw [hkk, hk]; omega
  clear hI
  change ∀ a ∈ l.take j, x ≤ (es a).c at hx1
  change ∃ a ∈ l, x = (es a).c at hx2
  refine S.len (natV_length _) fun _ _ => ?_
  refine ifP_of (fun h1 => ?_) (fun h1 => ?_)
  rotate_left
  · have : j = l.length := by have := of_decide_eq_false h1; omega
    subst this
    rw [List.take_length] at hx1
    exact ⟨x, rfl, x1, hx1, hx2⟩
  have hjl : j < l.length := by have := of_decide_eq_true h1; omega
  have htk : l.take (j + 1) = l.take j ++ [l[j]] := List.take_succ_eq_append_getElem hjl
  have hmj := hm _ (List.getElem_mem hjl)
  rw [i64_inc (by omega)]
  refine S.at (natV_get hjl) fun a16 ha16 => ⟨_, B.ld rfl, _, ha16, Gv.c hmj ?_⟩
  refine ifP_of (fun h2 => ?_) (fun h2 => ?_)
  · have h2 := of_decide_eq_true h2
    refine S.at (natV_get hjl) fun a21 ha21 => ⟨_, B.ld rfl, _, ha21, Gv.c hmj ?_⟩
    refine mu_next (I := I) (k := l.length - (j + 1)) ⟨j + 1, rfl, by omega, hjl, rfl, rfl, fun a ha => ?_, _, List.getElem_mem hjl, rfl⟩ (hlt hjl)
    rw [htk] at ha
    show (es l[j]).c ≤ (es a).c
    rcases List.mem_append.1 ha with ha | ha
    · have := hx1 a ha; omega
    · rw [List.mem_singleton] at ha; subst ha; exact Int.le_refl _
  · have h2 := of_decide_eq_false h2
    refine mu_next (I := I) (k := l.length - (j + 1)) ⟨j + 1, rfl, by omega, hjl, rfl, rfl, fun a ha => ?_, hx2⟩ (hlt hjl)
    rw [htk] at ha
    show x ≤ (es a).c
    rcases List.mem_append.1 ha with ha | ha
    · exact hx1 a ha
    · rw [List.mem_singleton] at ha; subst ha; omega

theorem change_R (S : RS h on (ints m f)) (hm : m ≤ 20000) (hb : ∀ i, i < m → -1099511627776 ≤ f i ∧ f i ≤ 1099511627776) {x : Int} (hx : -1099511627776 ≤ x ∧ x ≤ 1099511627776) (P : RS h list (natV l)) (hl : l.length < 1000000) (hlm : ∀ a ∈ l, a < 2 * m) :
    T Try.prog F.compassref11_change [on, list, .int .i64 x] h fun r h' => ∃ v, r = .ret v ∧ Ext h h' ∧ RS h' v (ints m (chgF f l x)) := by
  refine E_compassref11_change ?_
  unfold B_compassref11_change
  refine new_bl ?_
  intro b1 q1 hb1 x1 B
  have k1 : S1 (own1 (fun _ => 0) b1 1) q1 1 (.slice (some (bk b1)) 0 0) [] := .inr ⟨b1, own1_at, 0, B.choose, [], rfl, B.choose_spec, rfl⟩
  have bs : Bs h (own1 (fun _ => 0) b1 1) q1 := Bs.start.new x1 hb1
  refine k1.catR (S.ext x1) ints_one (by omega) (by rw [ints_length]; simp; omega) ?_
  intro s3 own q4 F k1
  rw [List.nil_append] at k1
  have bs := bs.fm F (by simp <;> omega)
  let I : (Int × Unit) → H → Nat → Prop := fun p q k => ∃ j : Nat, p.1 = j ∧ j ≤ l.length ∧ k = l.length - j ∧ Bs h own q ∧ S1 own q 1 s3 (ints m (chgF f (l.take j) x)) ∧
    ∀ i, i < m → -1099511627776 * (j + 1 : Int) ≤ chgF f (l.take j) x i ∧ chgF f (l.take j) x i ≤ 1099511627776 * (j + 1 : Int)
  refine ⟨fun p q => ∃ k, I p q k, rk I, rk_wf I, ⟨_, 0, rfl, by omega, rfl, bs, by rw [List.take_zero]; exact k1, fun i hi => by rw [List.take_zero]; have := hb i hi; show _ ≤ f i ∧ f i ≤ _; omega⟩, ?_⟩
  clear bs k1 F
  intro p q hI
  obtain ⟨j, e1, hj, hk, bs, k1, hbj⟩ := mu_spec hI
  generalize hkk : mu I ((p, ()), q) = k at *
  change p = (j : Int) at e1
  subst e1
  have hlt : j < l.length → l.length - (j + 1) < mu I (((j : Int), ()), q) := fun h => by rw [hkk, hk]; omega
  clear hI
  have Pq := P.ext bs.ext
  refine Pq.len (natV_length _) fun _ _ => ?_
  refine ifP_of (fun h1 => ?_) (fun h1 => ?_)
  rotate_left
  · have : j = l.length := by have := of_decide_eq_false h1; omega
    subst this
    rw [List.take_length] at k1
    exact ⟨s3, rfl, bs.ext, RS.of_S1 k1⟩
  have hjl : j < l.length := by have := of_decide_eq_true h1; omega
  have htk : l.take (j + 1) = l.take j ++ [l[j]] := List.take_succ_eq_append_getElem hjl
  have hmj := hlm _ (List.getElem_mem hjl)
  have hget := natV_get hjl
  generalize hll : l[j] = a at *
  have estep : chgF f (l.take (j + 1)) x = chgS (chgF f (l.take j) x) a x := by
    rw [htk]; unfold chgF; rw [List.foldl_append]; rfl
  generalize chgF f (l.take j) x = c at *
  have hh : a / 2 < m := by omega
  have hc := hbj _ hh
  have em : ((a : Nat) : Int).tmod 2 = ((a % 2 : Nat) : Int) := by rw [Int.tmod_eq_emod_of_nonneg (by omega)]; omega
  have ed : ((a : Nat) : Int).tdiv 2 = ((a / 2 : Nat) : Int) := by rw [Int.tdiv_eq_ediv_of_nonneg (by omega)]; omega
  have ewd : IntKind.i64.wrap (((a : Nat) : Int).tdiv 2) = ((a / 2 : Nat) : Int) := by rw [ed]; exact w64_in (by omega) (by omega)
  have fin : ∀ {q5 : H}, Bs h own q5 → S1 own q5 1 s3 (ints m (chgS c a x)) → (∃ k, I (((j + 1 : Nat) : Int), ()) q5 k) ∧ rk I ((((j + 1 : Nat) : Int), ()), q5) (((j : Int), ()), q) := by
    intro q5 bs k1
    refine mu_next (I := I) (k := l.length - (j + 1)) ⟨j + 1, rfl, hjl, rfl, bs, by rw [estep]; exact k1, fun i hi => ?_⟩ (hlt hjl)
    rw [estep]
    have h2 := hbj i hi
    unfold chgS upd
    have e3 : (((j + 1 : Nat) : Int) + 1) = (j : Int) + 1 + 1 := by omega
    rw [e3]
    by_cases e : i = a / 2
    · rw [if_pos e]; split <;> omega
    · rw [if_neg e]; omega
  rw [i64_inc (by omega)]
  refine Pq.rd hget ⟨by omega, ?_⟩
  rw [em]
  refine ifP_of (fun h2 => ?_) (fun h2 => ?_)
  · have h2 : a % 2 = 0 := by have := of_decide_eq_true h2; omega
    refine Pq.rd hget ⟨by omega, ?_⟩
    rw [ewd]
    refine k1.rdI hh (k1.setI hh ?_)
    intro q19 F k1
    have bs := bs.fm F (by simp <;> omega)
    have ew : IntKind.i64.wrap (c (a / 2) + x) = c (a / 2) + x := w64_in (by omega) (by omega)
    rw [ew] at k1
    refine fin bs ?_
    unfold chgS
    rw [if_pos h2]; exact k1
  · have h2 : ¬ a % 2 = 0 := by have := of_decide_eq_false h2; omega
    refine Pq.rd hget ⟨by omega, ?_⟩
    rw [ewd]
    refine k1.rdI hh (k1.setI hh ?_)
    intro q19 F k1
    have bs := bs.fm F (by simp <;> omega)
    have ew : IntKind.i64.wrap (c (a / 2) - x) = c (a / 2) - x := w64_in (by omega) (by omega)
    rw [ew] at k1
    refine fin bs ?_
    unfold chgS
    rw [if_neg h2]; exact k1

theorem MaxFlow_R (G : GrA h w n m es) (g : Gw n m es) {s t : Nat} (hs : s < n) (ht : t < n) (hst : s ≠ t) :
    T Try.prog F.compassref11_MaxFlow [.agg ⟨w⟩, .int .i64 s, .int .i64 t] h fun r h' => ∃ von vsd f sd, r = .ret (.tuple ⟨[von, vsd]⟩) ∧ Ext h h' ∧ RS h' von (ints m f) ∧ RS h' vsd (bools n sd) ∧
      MaxP n m (frE es) (toE es) (cpE es) s t f ∧ ∀ v, v < n → (sd v = true ↔ Rch (RsS m (frE es) (toE es) (cpE es) f) s v) := by
  refine E_compassref11_MaxFlow ?_
  unfold B_compassref11_MaxFlow
  have m1 := g.m1
  have n1 := g.n1
  obtain ⟨gv, rfl, Gv⟩ := G.gs
  refine new_bl ?_
  intro b1 q1 hb1 x1 B
  have Gv := Gv.ext x1
  refine ⟨_, B.ld rfl, Gv.len fun _ _ => mk_ints 1 (by omega) (by omega) ?_⟩
  intro b7 q8 hb7 x8 S7
  rw [Int.toNat_natCast]
  have cpb : ∀ {f : Nat → Int}, FlowP n m (frE es) (toE es) (cpE es) s t f → ∀ i, i < m → 0 ≤ f i ∧ f i ≤ 1048576 := fun F i hi => by
    have := F.cp i hi
    have := g.c i hi
    unfold cpE at *; omega
  have vb : ∀ {f : Nat → Int}, FlowP n m (frE es) (toE es) (cpE es) s t f → OutF m (frE es) (toE es) f s ≤ 34359738368 := fun {f} F => by
    have := (OutF_bd (fr := frE es) (to := toE es) (f := f) (v := s) (j := m) (B := 1048576) (fun i hi => by have := cpb F i hi; omega) (by omega)).2
    omega
  let I : (Value × Unit) → H → Nat → Prop := fun p q k => ∃ f, (k : Int) = 34359738368 - OutF m (frE es) (toE es) f s ∧ Ext q1 q ∧ RS q p.1 (ints m f) ∧ FlowP n m (frE es) (toE es) (cpE es) s t f
  refine ⟨fun p q => ∃ k, I p q k, rk I, rk_wf I, ⟨34359738368, fun _ => 0, ?_, x8, RS.of_S1 (S7 fun _ => 0), fun i hi => ⟨Int.le_refl _, (g.c i hi).1⟩, fun v _ _ _ => sumN_zero fun i _ => by split <;> split <;> rfl⟩, ?_⟩
  · have : OutF m (frE es) (toE es) (fun _ => 0) s = 0 := sumN_zero fun i _ => by split <;> split <;> rfl
    rw [this]; rfl
  clear S7 x8 hb7
  intro on q hI
  obtain ⟨f, hk, xq, S, Fl⟩ := mu_spec hI
  generalize hkk : mu I ((on, ()), q) = k at *
  change RS q on (ints m f) at S
  have hlt : ∀ z : Nat, (z : Int) < 34359738368 - OutF m (frE es) (toE es) f s → z < mu I ((on, ()), q) := fun z h => by rw [hkk]; omega
  clear hI
  refine (B.ext xq).ldN rfl ?_
  refine (Residual_R ((Gv.ext xq).gr n) g S Fl.cp).mono ?_
  rintro _ q15 ⟨rv, rfl, x15, Gr⟩
  refine rt_ret ⟨_, rfl, rfl, ?_⟩
  refine new_bl_st rfl rfl (by intro v hv; simp only [List.mem_cons, List.mem_nil_iff, or_false] at hv; rcases hv with rfl | rfl; rfl; exact slc_one Gr.isS) ?_
  intro b17 q19 hb17 x19 B17
  refine B17.ldN rfl ?_
  have hE1 : ∀ a, a < 2 * m → (resEd es f a).f = (frE (resEd es f) a : Nat) ∧ frE (resEd es f) a < n := by
    intro a ha
    have h1 := g.fr (a / 2) (by omega)
    have h2 := g.to (a / 2) (by omega)
    unfold frE resEd
    split
    · exact h1
    · exact h2
  have hE2 : ∀ a, a < 2 * m → (resEd es f a).t = (toE (resEd es f) a : Nat) ∧ toE (resEd es f) a < n := by
    intro a ha
    have h1 := g.fr (a / 2) (by omega)
    have h2 := g.to (a / 2) (by omega)
    unfold toE resEd
    split
    · exact h2
    · exact h1
  have Gr := Gr.ext x19
  refine (reach_R (Gr.gr n) hE1 hE2 (by omega) (by omega) hs).mono ?_
  rintro _ q22 ⟨vv, via, rank, rfl, x22, Sv, R⟩
  refine rt_ret ?_
  have Gr := Gr.ext x22
  have xh := ((xq.trans' x15).trans' x19).trans' x22
  have B17 := B17.ext x22
  have B := B.ext xh
  have S := S.ext ((x15.trans' x19).trans' x22)
  have Rm := resR_ok Fl.cp
  have hvia : ∀ v, v < n → (via v ≠ -2 ↔ Rch (RsS m (frE es) (toE es) (cpE es) f) s v) := by
    intro v hv
    have e := rch_iff (fr := frE es) (to := toE es) Rm (u := s) (v := v)
    rw [onR_res] at e
    rw [← e]
    constructor
    · have key : ∀ k v, v < n → rank v ≤ k → via v ≠ -2 → Rch (ArS m (frE es) (toE es) (resR (cpE es) f)) s v := by
        intro k
        induction k with
        | zero =>
          intro v hv hk h
          rcases R.cs v hv with h2 | ⟨rfl, _⟩ | ⟨a, h1, h2, h3, h4, h5, h6⟩
          · exact absurd h2 h
          · exact .refl
          · omega
        | succ k ih =>
          intro v hv hk h
          rcases R.cs v hv with h2 | ⟨rfl, _⟩ | ⟨a, h1, h2, h3, h4, h5, h6⟩
          · exact absurd h2 h
          · exact .refl
          · have := ih _ (hE1 a h1).2 (by omega) h5
            refine this.step ⟨a, h1, ?_, ?_, ?_⟩
            · rw [resEd_fr]
            · rw [← resEd_to es f]; exact h3
            · rw [← resEd_c]; exact h4
      exact fun h => key _ v hv (Nat.le_refl _) h
    · intro r
      refine r.closed (C := fun u => via u ≠ -2) (by rw [R.src]; omega) ?_
      rintro u v hu ⟨a, ha, rfl, rfl, hr⟩
      have := R.cl a ha (by rw [resEd_c]; exact hr) (by rw [resEd_fr]; exact hu)
      rwa [resEd_to] at this
  refine Sv.rdI ht (ifP_of (fun h1 => ?_) (fun h1 => ?_))
  · -- the end
    have h1 := of_decide_eq_true h1
    have Mx : MaxP n m (frE es) (toE es) (cpE es) s t f := ⟨Fl, fun r => (hvia t ht).2 r h1⟩
    refine ⟨_, B.ld rfl, mk_bools 3 (by omega) (by omega) ?_⟩
    intro b26 q27 hb26 x27 S26
    rw [Int.toNat_natCast]
    have bs : Bs q22 (own1 (fun _ => 0) b26 3) q27 := Bs.start.new x27 hb26
    have k3 := S26 fun _ => 0
    generalize own1 (fun _ => 0) b26 3 = own at *
    clear S26 x27 hb26
    let I28 : (Int × Unit) → H → Nat → Prop := fun p q k => ∃ (v : Nat) (sd : Nat → Bool), p.1 = v ∧ v ≤ n ∧ k = n - v ∧ Bs q22 own q ∧ S1 own q 3 (slV b26 n) (bools n sd) ∧ ∀ j, j < v → sd j = decide (-1 ≤ via j)
    refine ⟨fun p q => ∃ k, I28 p q k, rk I28, rk_wf I28, ⟨_, 0, _, rfl, by omega, rfl, bs, k3, fun j hj => by omega⟩, ?_⟩
    clear bs k3
    intro p q hI
    obtain ⟨v, sd, e1, hv, hk2, bs, k3, hsd⟩ := mu_spec hI
    generalize hkk : mu I28 ((p, ()), q) = k2 at *
    change p = (v : Int) at e1
    subst e1
    have hlt2 : v < n → n - (v + 1) < mu I28 (((v : Int), ()), q) := fun h => by rw [hkk, hk2]; omega
    clear hI
    refine ⟨_, (B.ext bs.ext).ld rfl, ifP_of (fun h2 => ?_) (fun h2 => ?_)⟩
    · have hvn : v < n := by have := of_decide_eq_true h2; omega
      refine (Sv.ext bs.ext).rdI hvn (k3.setB hvn ?_)
      intro q36 F k3
      have bs := bs.fm F (by simp <;> omega)
      rw [i64_inc (by omega)]
      refine mu_next (I := I28) (k := n - (v + 1)) ⟨v + 1, _, rfl, hvn, rfl, bs, k3, fun j hj => ?_⟩ (hlt2 hvn)
      unfold updB
      by_cases e : j = v
      · subst e; rw [if_pos rfl]
      · rw [if_neg e]; exact hsd j (by omega)
    · have : v = n := by have := of_decide_eq_false h2; omega
      subst this
      refine ⟨on, slV b26 v, f, sd, rfl, (x1.trans' xh).trans' bs.ext, S.ext bs.ext, RS.of_S1 k3, Mx, fun u hu => ?_⟩
      rw [hsd u hu, ← hvia u hu]
      rcases R.cs u hu with h | h | ⟨a, _, h, _⟩ <;> simp <;> omega
  -- a way
  have h1 := of_decide_eq_false h1
  let I37 : (Value × Int × Unit) → H → Nat → Prop := fun p q k => ∃ (v : Nat) (l : List Nat) (own : Own), p.2.1 = v ∧ v < n ∧ k = rank v ∧ via v ≠ -2 ∧ Bs q22 own q ∧ S1 own q 7 p.1 (natV l) ∧
    (∀ a ∈ l, a < 2 * m ∧ 0 < resR (cpE es) f a) ∧ l.length + rank v ≤ rank t ∧ (v = t ∨ l ≠ []) ∧ ∀ l2, ViaP (tlA (frE es) (toE es)) (hdA (frE es) (toE es)) rank s v l2 → ViaP (tlA (frE es) (toE es)) (hdA (frE es) (toE es)) rank s t (l ++ l2)
  refine ⟨fun p q => ∃ k, I37 p q k, rk I37, rk_wf I37, ⟨_, t, [], fun _ => 0, rfl, ht, rfl, h1, Bs.start, S1.nil, fun a ha => (by cases ha), by simp, .inl rfl, fun l2 p => p⟩, ?_⟩
  intro lv p q39 hI
  obtain ⟨v, l, own, e1, hv, hk2, hvv, bs, k7, hla, hlen, hne, hvp⟩ := mu_spec hI
  generalize hkk : mu I37 ((lv, p, ()), q39) = k2 at *
  change p = (v : Int) at e1
  change S1 own q39 7 lv (natV l) at k7
  subst e1
  have hlt2 : ∀ z, z < rank v → z < mu I37 ((lv, (v : Int), ()), q39) := fun z h => by rw [hkk, hk2]; exact h
  clear hI
  have hrt := R.rk t ht h1
  refine ifP_of (fun h2 => ?_) (fun h2 => ?_)
  · have h2 : v ≠ s := by simp at h2; omega
    rcases R.cs v hv with h3 | ⟨h3, _⟩ | ⟨a, c1, c2, c3, c4, c5, c6⟩
    · exact absurd h3 hvv
    · exact absurd h3 h2
    have Svq := Sv.ext bs.ext
    refine Svq.rdI hv ?_
    rw [c2]
    refine k7.push rfl (by simp [Value.oneCell']) (by simp) (by omega) (by rw [natV_length]; omega) ?_
    intro _ _ lv2 own2 q47 _ _ F k7
    have bs := bs.fm F (by simp <;> omega)
    have Svq := Sv.ext bs.ext
    refine Svq.at (ints_get hv) fun a48 ha48 => ?_
    rw [c2] at ha48
    refine ⟨_, (B17.ext bs.ext).ld rfl, _, ha48, (Gr.ext bs.ext).f c1 ?_⟩
    rw [(hE1 a c1).1]
    rw [resEd_c] at c4
    rw [resEd_to] at c3
    rw [resEd_fr] at c5 c6 ⊢
    refine mu_next (I := I37) (k := rank (tlA (frE es) (toE es) a)) ⟨tlA (frE es) (toE es) a, l ++ [a], own2, rfl, tl_lt g.ends c1, rfl, c5, bs, ?_, fun b hb => ?_, ?_, .inr (by simp), ViaP.snoc hvp c3 (by rw [c3]; exact c6)⟩ (hlt2 _ c6)
    · have : natV (l ++ [a]) = natV l ++ [.int .i64 ((a : Nat) : Int)] := by simp [natV]
      rw [this]; exact k7
    · rcases List.mem_append.1 hb with hb | hb
      · exact hla b hb
      · rw [List.mem_singleton] at hb; subst hb; exact ⟨c1, c4⟩
    · rw [List.length_append]; simp; omega
  · have h2 : v = s := by simp at h2; omega
    subst h2
    have hne : l ≠ [] := by
      rcases hne with h | h
      · exact absurd h hst
      · exact h
    have way := hvp [] .nil
    rw [List.append_nil] at way
    refine (B17.ext bs.ext).ldN rfl ?_
    refine (room_R ((Gr.ext bs.ext).gr n) hne (by omega) (fun a ha => (hla a ha).1) (RS.of_S1 k7)).mono ?_
    rintro _ q55 ⟨x, rfl, x55, hx1, a0, ha0, hx0⟩
    refine rt_ret ⟨x, rfl, ?_⟩
    rw [resEd_c] at hx0
    have hxp : 0 < x := by rw [hx0]; exact (hla a0 ha0).2
    have hxb : x ≤ 1048576 := by
      rw [hx0]
      have := rm_bd Rm (fun i hi => (g.c i hi).2) a0 (hla a0 ha0).1
      exact this.2
    refine (change_R ((S.ext bs.ext).ext x55) (by omega) (fun i hi => by have := cpb Fl i hi; omega) (x := x) (by omega) ((RS.of_S1 k7).ext x55) (by omega) (fun a ha => (hla a ha).1)).mono ?_
    rintro _ q58 ⟨on2, rfl, x58, S2⟩
    refine rt_ret ?_
    obtain ⟨R2, O2⟩ := aug (x := x) (by omega) way _ Rm fun a ha => ⟨(hla a ha).1, by have := hx1 a ha; rw [resEd_c] at this; exact this⟩
    rw [onR_sndF, onR_res] at O2
    have Fl2 : FlowP n m (frE es) (toE es) (cpE es) v t (chgF f l x) := by
      refine ⟨fun i hi => ?_, fun u hu h3 h4 => ?_⟩
      · have e : chgF f l x i = onR (sndF (resR (cpE es) f) l x) i := by rw [onR_sndF, onR_res]
        rw [e]
        have := R2.sum i hi
        have h3 := R2.pos (2 * i) (by omega)
        have h4 := R2.pos (2 * i + 1) (by omega)
        unfold onR; omega
      · rw [O2, Fl.cons u hu h3 h4, if_neg (fun h => h3 h.symm), if_neg (fun h => h4 h.symm)]; rfl
    have e2 := O2 v
    rw [if_pos rfl, if_neg (fun h => hst h.symm)] at e2
    have vb2 := vb Fl2
    obtain ⟨k3, hk3⟩ : ∃ k3 : Nat, (k3 : Int) = 34359738368 - OutF m (frE es) (toE es) (chgF f l x) v := ⟨(34359738368 - OutF m (frE es) (toE es) (chgF f l x) v).toNat, by omega⟩
    exact mu_next (I := I) (k := k3) ⟨chgF f l x, hk3, ((xh.trans' bs.ext).trans' x55).trans' x58, S2, Fl2⟩ (hlt _ (by omega))
end

end Go.Proofs.Ythglkcpoofenbaa

/-! The document's Value, Copy, Reverse; bools, empty. -/
namespace Go.Proofs.Ythglkcpoofenbaa
open Go
set_option linter.unusedVariables false
set_option linter.unusedSimpArgs false

/-- All edges turned about. -/
def revE (es : Nat → Ed) (i : Nat) : Ed := ⟨(es i).t, (es i).f, (es i).c, (es i).k⟩
/-- Another capacity at a place. -/
def capE (es : Nat → Ed) (j : Nat) (x : Int) (i : Nat) : Ed := if i = j then ⟨(es i).f, (es i).t, x, (es i).k⟩ else es i

section
variable {h : H} {w : List Value} {n : Int} {m : Nat} {es : Nat → Ed}

theorem S4.at {own : Own} {h : H} {i m : Nat} {v : Value} {es : Nat → Ed} {j : Nat} {K : Addr → Prop} (s : S4 own h i v m es) (hj : j < m) (k : ∀ b, K ((bk b).add (j * 4))) : ixS v (j : Int) 4 K := by
  rcases s with ⟨rfl, _⟩ | ⟨b, c, e, zs, hb, rfl, h2, h3⟩
  · omega
  · exact nx hj (k b)
theorem S4.setC {own : Own} {h : H} {i m : Nat} {v : Value} {es : Nat → Ed} {j : Nat} {x : Int} {K : H → Prop} (s : S4 own h i v m es) (hj : j < m)
    (k : ∀ g, Fm [i] own h own g → S4 own g i v m (capE es j x) → K g) : ixS v (j : Int) 4 fun a => stC h (a.add 2) (.int .i64 x) K := by
  rcases s with ⟨rfl, _⟩ | ⟨b, c, e, zs, hb, rfl, h2, h3⟩
  · omega
  · refine nx hj ?_
    rw [bk_add, bk_add2]
    have hlt : j * 4 + 2 < m * 4 := at_lt hj (by omega)
    have e2 : hset h ⟨b, j * 4 + 2, none⟩ [.int .i64 x] b = some (.cells ⟨recs m 4 (edF (capE es j x)) ++ zs⟩ e (0, 0)) := by
      unfold hset
      rw [if_pos rfl, h2]
      simp only [Option.map_some, setR]
      rw [List.setIfInBounds_toArray, List.set_append_left _ _ (by rw [recs_length]; exact hlt), recs_set hj (by omega)]
      congr 4
      refine recs_ext fun l hl q => ?_
      unfold upd2 edF capE
      by_cases e1 : l = j
      · subst e1
        rw [if_pos rfl]
        match q with
        | 0 => rw [if_neg (fun h => by cases h.2)]; rfl
        | 1 => rw [if_neg (fun h => by cases h.2)]; rfl
        | 2 => rw [if_pos ⟨rfl, rfl⟩]; rfl
        | q + 3 => rw [if_neg (fun h => by omega)]; rfl
      · rw [if_neg (fun h => e1 h.1), if_neg e1]
    refine ⟨⟨_, _, h2, rfl, ?_⟩, k _ (Fm.kp (b := b) ?_ hb ⟨_, e2⟩) (.inr ⟨b, c, e, zs, hb, rfl, e2, h3⟩)⟩
    · simp only [List.size_toArray, List.length_append, recs_length]; omega
    · intro k o hk hh
      unfold hset
      rw [if_neg hk]; exact hh

theorem Copy_R (G : GrA h w n m es) (hm : m ≤ 4398046511104) : T Try.prog F.compassref03_Copy [.agg ⟨w⟩] h fun r h' => ∃ v own, r = .ret (.agg ⟨[.int .i64 n, v]⟩) ∧ Bs h own h' ∧ S4 own h' 1 v m es := by
  refine E_compassref03_Copy ?_
  unfold B_compassref03_Copy
  obtain ⟨gv, rfl, Gv⟩ := G.gs
  refine new_bl ?_
  intro b1 q1 hb1 x1 B
  have bs : Bs h (own1 (fun _ => 0) b1 9) q1 := Bs.start.new x1 hb1
  have k9 : B1 (own1 (fun _ => 0) b1 9) q1 9 b1 _ := B1.new B
  generalize own1 (fun _ => 0) b1 9 = own at *
  refine new_bl ?_
  intro b3 q3 hb3 x3 B3
  have bs := bs.nw (j := 8) x3 hb3
  have k9 := k9.nw (j := 8) x3 hb3
  have k8 : B1 (own1 own b3 8) q3 8 b3 _ := B1.new B3
  generalize own1 own b3 8 = own at *
  refine ⟨_, k9.ld rfl, ?_⟩
  refine new_bl_st rfl rfl (by simp [Value.oneCell']) ?_
  intro b6 q8 hb6 x8 B6
  have bs := bs.nw (j := 4) x8 hb6
  have k9 := k9.nw (j := 4) x8 hb6
  have k8 := k8.nw (j := 4) x8 hb6
  have k4 : B1 (own1 own b6 4) q8 4 b6 [.int .i64 n, .slice none 0 0] := B1.new B6
  generalize own1 own b6 4 = own at *
  let I : (Int × Unit) → H → Nat → Prop := fun p q k => ∃ (j : Nat) (own : Own) (v : Value), p.1 = j ∧ j ≤ m ∧ k = m - j ∧ Bs h own q ∧ B1 own q 4 b6 [.int .i64 n, v] ∧ S4 own q 1 v j es ∧ B1 own q 9 b1 [.int .i64 n, gv] ∧ B1 own q 8 b3 [.int .i64 0, .slice none 0 0]
  refine ⟨fun p q => ∃ k, I p q k, rk I, rk_wf I, ⟨_, 0, _, _, rfl, by omega, rfl, bs, k4, S4.nil, k9, k8⟩, ?_⟩
  clear bs k4 k9 k8 B B3 B6
  intro p q hI
  obtain ⟨j, own, v, e1, hj, hk, bs, k4, k1, k9, k8⟩ := mu_spec hI
  generalize hkk : mu I ((p, ()), q) = km at *
  change p = (j : Int) at e1
  subst e1
  have hlt : j < m → m - (j + 1) < mu I (((j : Int), ()), q) := fun h => by rw [hkk, hk]; omega
  clear hI
  have Gz := Gv.ext bs.ext
  refine ⟨_, k9.ld rfl, Gz.len fun _ _ => ?_⟩
  refine ifP_of (fun h1 => ?_) (fun h1 => ?_)
  · have hjm : j < m := by have := of_decide_eq_true h1; omega
    refine ⟨_, k4.ld rfl, _, k9.ld rfl, Gz.e4 hjm ⟨rfl, ?_⟩⟩
    refine S4.push (ed := es j) k1 (by omega) ?_
    intro _ _ v2 own2 q24 _ _ F k1
    have bs := bs.fm F (by simp <;> omega)
    have k4 := k4.fm F (by simp <;> omega)
    have k9 := k9.fm F (by simp <;> omega)
    have k8 := k8.fm F (by simp <;> omega)
    refine oneP_slc k1.isS (k4.st (by simp) ?_)
    intro q25 F2 k4
    simp only [List.set] at k4
    have bs := bs.fm F2 (by simp <;> omega)
    have k1 := k1.fm F2 (by simp <;> omega)
    have k9 := k9.fm F2 (by simp <;> omega)
    have k8 := k8.fm F2 (by simp <;> omega)
    rw [i64_inc (by omega)]
    refine mu_next (I := I) (k := m - (j + 1)) ⟨j + 1, own2, v2, rfl, hjm, rfl, bs, k4, S4.congr k1 fun l hl => ?_, k9, k8⟩ (hlt hjm)
    by_cases e : l = j
    · subst e; rw [if_pos rfl]
    · rw [if_neg e]
  · have : j = m := by have := of_decide_eq_false h1; omega
    subst this
    refine k4.ldN rfl (k8.stN rfl rfl (by simp [Value.oneCell']; exact slc_one k1.isS) ?_)
    intro q27 F k8
    have bs := bs.fm F (by simp <;> omega)
    have k1 := k1.fm F (by simp <;> omega)
    exact k8.ldN rfl ⟨v, own, rfl, bs, k1⟩

theorem Reverse_R (G : GrA h w n m es) (hm : m ≤ 4398046511104) : T Try.prog F.compassref03_Reverse [.agg ⟨w⟩] h fun r h' => ∃ v own, r = .ret (.agg ⟨[.int .i64 n, v]⟩) ∧ Bs h own h' ∧ S4 own h' 1 v m (revE es) := by
  refine E_compassref03_Reverse ?_
  unfold B_compassref03_Reverse
  obtain ⟨gv, rfl, Gv⟩ := G.gs
  refine new_bl ?_
  intro b1 q1 hb1 x1 B
  have bs : Bs h (own1 (fun _ => 0) b1 9) q1 := Bs.start.new x1 hb1
  have k9 : B1 (own1 (fun _ => 0) b1 9) q1 9 b1 _ := B1.new B
  generalize own1 (fun _ => 0) b1 9 = own at *
  refine new_bl ?_
  intro b3 q3 hb3 x3 B3
  have bs := bs.nw (j := 8) x3 hb3
  have k9 := k9.nw (j := 8) x3 hb3
  have k8 : B1 (own1 own b3 8) q3 8 b3 _ := B1.new B3
  generalize own1 own b3 8 = own at *
  refine ⟨_, k9.ld rfl, ?_⟩
  refine new_bl_st rfl rfl (by simp [Value.oneCell']) ?_
  intro b6 q8 hb6 x8 B6
  have bs := bs.nw (j := 4) x8 hb6
  have k9 := k9.nw (j := 4) x8 hb6
  have k8 := k8.nw (j := 4) x8 hb6
  have k4 : B1 (own1 own b6 4) q8 4 b6 [.int .i64 n, .slice none 0 0] := B1.new B6
  generalize own1 own b6 4 = own at *
  let I : (Int × Unit) → H → Nat → Prop := fun p q k => ∃ (j : Nat) (own : Own) (v : Value), p.1 = j ∧ j ≤ m ∧ k = m - j ∧ Bs h own q ∧ B1 own q 4 b6 [.int .i64 n, v] ∧ S4 own q 1 v j (revE es) ∧ B1 own q 9 b1 [.int .i64 n, gv] ∧ B1 own q 8 b3 [.int .i64 0, .slice none 0 0]
  refine ⟨fun p q => ∃ k, I p q k, rk I, rk_wf I, ⟨_, 0, _, _, rfl, by omega, rfl, bs, k4, S4.nil, k9, k8⟩, ?_⟩
  clear bs k4 k9 k8 B B3 B6
  intro p q hI
  obtain ⟨j, own, v, e1, hj, hk, bs, k4, k1, k9, k8⟩ := mu_spec hI
  generalize hkk : mu I ((p, ()), q) = km at *
  change p = (j : Int) at e1
  subst e1
  have hlt : j < m → m - (j + 1) < mu I (((j : Int), ()), q) := fun h => by rw [hkk, hk]; omega
  clear hI
  have Gz := Gv.ext bs.ext
  refine ⟨_, k9.ld rfl, Gz.len fun _ _ => ?_⟩
  refine ifP_of (fun h1 => ?_) (fun h1 => ?_)
  · have hjm : j < m := by have := of_decide_eq_true h1; omega
    refine ⟨_, k9.ld rfl, Gz.e4 hjm ?_⟩
    refine new_bl_st rfl rfl (ed_one _) ?_
    intro b20 q22 hb20 x22 B20
    have bs := bs.nw (j := 7) x22 hb20
    have k4 := k4.nw (j := 7) x22 hb20
    have k1 := k1.nw (j := 7) x22 hb20
    have k9 := k9.nw (j := 7) x22 hb20
    have k8 := k8.nw (j := 7) x22 hb20
    generalize own1 own b20 7 = own at *
    refine ⟨_, k4.ld rfl, _, B20.ed.2.1, _, B20.ed.1, _, B20.ed.2.2.1, _, B20.ed.2.2.2, rfl, ?_⟩
    refine S4.push (ed := revE es j) k1 (by omega) ?_
    intro _ _ v2 own2 q24 _ _ F k1
    have bs := bs.fm F (by simp <;> omega)
    have k4 := k4.fm F (by simp <;> omega)
    have k9 := k9.fm F (by simp <;> omega)
    have k8 := k8.fm F (by simp <;> omega)
    refine oneP_slc k1.isS (k4.st (by simp) ?_)
    intro q25 F2 k4
    simp only [List.set] at k4
    have bs := bs.fm F2 (by simp <;> omega)
    have k1 := k1.fm F2 (by simp <;> omega)
    have k9 := k9.fm F2 (by simp <;> omega)
    have k8 := k8.fm F2 (by simp <;> omega)
    rw [i64_inc (by omega)]
    refine mu_next (I := I) (k := m - (j + 1)) ⟨j + 1, own2, v2, rfl, hjm, rfl, bs, k4, S4.congr k1 fun l hl => ?_, k9, k8⟩ (hlt hjm)
    by_cases e : l = j
    · subst e; rw [if_pos rfl]
    · rw [if_neg e]
  · have : j = m := by have := of_decide_eq_false h1; omega
    subst this
    refine k4.ldN rfl (k8.stN rfl rfl (by simp [Value.oneCell']; exact slc_one k1.isS) ?_)
    intro q27 F k8
    have bs := bs.fm F (by simp <;> omega)
    have k1 := k1.fm F (by simp <;> omega)
    exact k8.ldN rfl ⟨v, own, rfl, bs, k1⟩

theorem Value_R {n : Nat} (G : GrA h w n m es) (g : Gw n m es) {s t : Nat} (hs : s < n) (ht : t < n) (hst : s ≠ t) :
    T Try.prog F.compassref13_Value [.agg ⟨w⟩, .int .i64 s, .int .i64 t] h fun r h' => ∃ vsd f sd, r = .ret (.tuple ⟨[.int .i64 (OutF m (frE es) (toE es) f s), vsd]⟩) ∧ Ext h h' ∧ RS h' vsd (bools n sd) ∧
      MaxP n m (frE es) (toE es) (cpE es) s t f ∧ ∀ v, v < n → (sd v = true ↔ Rch (RsS m (frE es) (toE es) (cpE es) f) s v) := by
  refine E_compassref13_Value ?_
  unfold B_compassref13_Value
  refine new_bl ?_
  intro b1 q1 hb1 x1 B
  refine B.ldN G.one.1 ?_
  refine (MaxFlow_R (G.ext x1) g hs ht hst).mono ?_
  rintro _ q5 ⟨von, vsd, f, sd, rfl, x5, So, Ss, Mx, hsd⟩
  refine rt_ret ⟨_, _, rfl, (B.ext x5).ldN G.one.1 ?_⟩
  refine (Out_R ((G.ext x1).ext x5) g So (fun i hi => by have := Mx.fl.cp i hi; have := g.c i hi; unfold cpE at *; omega) s).mono ?_
  rintro _ q10 ⟨rfl, x10⟩
  exact rt_ret ⟨_, rfl, vsd, f, sd, rfl, (x1.trans' x5).trans' x10, Ss.ext x10, Mx, hsd⟩

theorem bools_R {va vb : Value} {k : Nat} {f : Nat → Bool} {g : Nat → Bool} (A : RS h va (bools k f)) (B : RS h vb (bools k g)) (he : ∀ i, i < k → f i = g i) (hk : k < 1000000) :
    T Try.prog F.compasslaw13_bools [va, vb] h fun r h' => r = .ret (.bool true) ∧ h = h' := by
  refine E_compasslaw13_bools ?_
  unfold B_compasslaw13_bools
  refine A.len (bools_length _ _) fun _ _ => B.len (bools_length _ _) fun _ _ => ifP_of (fun h => by simp at h) (fun _ => A.len (bools_length _ _) fun _ _ => ?_)
  let I : (Int × Unit) → H → Nat → Prop := fun p q z => ∃ j : Nat, p.1 = j ∧ j ≤ k ∧ z = k - j ∧ q = h
  refine ⟨fun p q => ∃ k, I p q k, rk I, rk_wf I, ⟨_, 0, rfl, by omega, rfl, rfl⟩, ?_⟩
  intro p q hI
  obtain ⟨j, e1, hj, hk2, e2⟩ := mu_spec hI
  generalize hkk : mu I ((p, ()), q) = km at *
  change p = (j : Int) at e1
  change q = h at e2
  subst e1 e2
  have hlt : j < k → k - (j + 1) < mu I (((j : Int), ()), q) := fun h => by rw [hkk, hk2]; omega
  clear hI
  refine ifP_of (fun h1 => ?_) (fun h1 => ⟨rfl, rfl⟩)
  have hjk : j < k := by have := of_decide_eq_true h1; omega
  refine A.at (va_get hjk) fun a ha => B.at (va_get hjk) fun b hb => ⟨_, ha, _, hb, ?_⟩
  rw [he j hjk]
  refine ifP_of (fun h => by simp at h) (fun _ => ?_)
  rw [i64_inc (by omega)]
  exact mu_next (I := I) (k := k - (j + 1)) ⟨j + 1, rfl, hjk, rfl, rfl⟩ (hlt hjk)

theorem empty_R : T Try.prog F.compasslaw13_empty [.agg ⟨flZ⟩] h fun r h' => r = .ret (.bool true) ∧ Ext h h' := by
  refine E_compasslaw13_empty ?_
  unfold B_compasslaw13_empty
  refine new_bl ?_
  intro b1 q1 hb1 x1 B
  refine ⟨_, B.ld rfl, ifP_of (fun _ => ?_) (fun h => by simp at h)⟩
  refine ⟨_, B.ld rfl, ifP_of (fun _ => ?_) (fun h => by simp at h)⟩
  refine ⟨_, B.ld rfl, slcP_mk (ifP_of (fun _ => ?_) (fun h => by simp at h))⟩
  exact ⟨_, B.ld rfl, slcP_mk ⟨rfl, x1⟩⟩
end

end Go.Proofs.Ythglkcpoofenbaa

/-! awake; FlowSolves. -/
namespace Go.Proofs.Ythglkcpoofenbaa
open Go
set_option linter.unusedVariables false
set_option linter.unusedSimpArgs false

theorem end0 {h : H} {b : Nat} {s t : Int} {K : Int → Prop} (B : Bl h b [.int .i64 s, .int .i64 t]) (k : K s) : ixA (bk b) 2 0 1 fun a => ldI h a .i64 K := ⟨by omega, by omega, _, B.ld (i := 0) rfl, k⟩
theorem end1 {h : H} {b : Nat} {s t : Int} {K : Int → Prop} (B : Bl h b [.int .i64 s, .int .i64 t]) (k : K t) : ixA (bk b) 2 1 1 fun a => ldI h a .i64 K := ⟨by omega, by omega, _, B.ld (i := 1) rfl, k⟩

/-- The graph of awake. -/
def esA (i : Nat) : Ed := match i with
  | 0 => ⟨0, 1, 2, 0⟩
  | 1 => ⟨1, 3, 9, 0⟩
  | 2 => ⟨0, 2, 3, 0⟩
  | _ => ⟨2, 3, 2, 0⟩
theorem esA_ends : ∀ i, i < 4 → frE esA i < 4 ∧ toE esA i < 4 := by decide
theorem esA_flow : FlowP 4 4 (frE esA) (toE esA) (cpE esA) 0 3 (fun _ => 2) := by
  refine ⟨?_, ?_⟩
  · decide
  · decide
theorem esA_cl : ∀ u v, (u = 0 ∨ u = 2) → RsS 4 (frE esA) (toE esA) (cpE esA) (fun _ => 2) u v → (v = 0 ∨ v = 2) := by
  rintro u v hu ⟨i, hi, h⟩
  match i, hi with
  | 0, _ =>
    rcases h with ⟨h1, h2, h3⟩ | ⟨h1, h2, h3⟩
    · exact absurd h3 (by decide)
    · exact .inl h2.symm
  | 1, _ =>
    rcases h with ⟨h1, h2, h3⟩ | ⟨h1, h2, h3⟩
    · have : (1 : Nat) = u := h1
      omega
    · have : (3 : Nat) = u := h1
      omega
  | 2, _ =>
    rcases h with ⟨h1, h2, h3⟩ | ⟨h1, h2, h3⟩
    · exact .inr h2.symm
    · exact .inl h2.symm
  | 3, _ =>
    rcases h with ⟨h1, h2, h3⟩ | ⟨h1, h2, h3⟩
    · exact absurd h3 (by decide)
    · exact .inr h2.symm
theorem esA_max : MaxP 4 4 (frE esA) (toE esA) (cpE esA) 0 3 (fun _ => 2) := by
  refine ⟨esA_flow, fun r => ?_⟩
  have := r.closed (C := fun v => v = 0 ∨ v = 2) (.inl rfl) esA_cl
  omega
theorem esA_2 : Rch (RsS 4 (frE esA) (toE esA) (cpE esA) (fun _ => 2)) 0 2 := Rch.refl.step ⟨2, by omega, .inl ⟨rfl, rfl, by decide⟩⟩
theorem esA_1 : ¬ Rch (RsS 4 (frE esA) (toE esA) (cpE esA) (fun _ => 2)) 0 1 := fun r => by
  have := r.closed (C := fun v => v = 0 ∨ v = 2) (.inl rfl) esA_cl
  omega
theorem esA_gd : wrong13 4 4 esA 0 3 1 = 0 ∧ wrong13 4 4 esA 0 3 2 = 0 ∧ wrong13 4 4 esA 0 3 3 = 0 := by decide

/-- The flow in the answer, and its parts. -/
theorem flV_len (s t : Int) (on side : Value) : (flV s t on side).length = 4 := rfl
theorem SolR.one {h h' : H} {n m : Nat} {es : Nat → Ed} {s t b1 b2 : Nat} {f : Nat → Int} {sd : Nat → Bool} : ∀ v ∈ flV s t (slV b1 m) (slV b2 n), v.oneCell' = true := by
  simp [Value.oneCell']

section
variable {h : H}
theorem awake_T : T Try.prog F.compasslaw13_awake [] h fun r h' => r = .ret (.bool true) ∧ Ext h h' := by
  refine E_compasslaw13_awake ?_
  unfold B_compasslaw13_awake
  refine ⟨rfl, rfl, rfl, rfl, new_bl ?_⟩
  intro b1 q1 hb1 x1 B1_
  have Gv : Gs q1 (.slice (some (bk b1)) 4 4) 4 esA := by
    refine ⟨_, _, rfl, fun i hi => ⟨_, rfl, fun j v hj => ?_⟩⟩
    rw [bk_add, bk_add2, ← bk_add]
    refine B1_.ld ?_
    match i, hi with
    | 0, _ => match j, hj with
      | 0, hj => exact hj
      | 1, hj => exact hj
      | 2, hj => exact hj
      | 3, hj => exact hj
    | 1, _ => match j, hj with
      | 0, hj => exact hj
      | 1, hj => exact hj
      | 2, hj => exact hj
      | 3, hj => exact hj
    | 2, _ => match j, hj with
      | 0, hj => exact hj
      | 1, hj => exact hj
      | 2, hj => exact hj
      | 3, hj => exact hj
    | 3, _ => match j, hj with
      | 0, hj => exact hj
      | 1, hj => exact hj
      | 2, hj => exact hj
      | 3, hj => exact hj
  refine new_bl_st rfl rfl (by simp [Value.oneCell']) ?_
  intro b3 q5 hb3 x5 B3
  have x15 := x1.trans' x5
  have Gv := Gv.ext x5
  let I : (Int × Unit) → H → Nat → Prop := fun p q z => ∃ j : Nat, p.1 = j ∧ 1 ≤ j ∧ j ≤ 4 ∧ z = 4 - j ∧ Ext q5 q
  refine ⟨fun p q => ∃ k, I p q k, rk I, rk_wf I, ⟨_, 1, rfl, by omega, by omega, rfl, Ext.refl _⟩, ?_⟩
  intro p q hI
  obtain ⟨j, e1, hj1, hj, hk2, xq⟩ := mu_spec hI
  generalize hkk : mu I ((p, ()), q) = km at *
  change p = (j : Int) at e1
  subst e1
  have hlt : j < 4 → 4 - (j + 1) < mu I (((j : Int), ()), q) := fun h => by rw [hkk, hk2]; omega
  clear hI
  refine ifP_of (fun h1 => ?_) (fun h1 => ⟨rfl, x15.trans' xq⟩)
  have hj3 : j < 4 := by have := of_decide_eq_true h1; omega
  refine (B3.ext xq).ldN rfl ?_
  refine (Solve_T ((Gv.ext xq).gr 4) 0 3 j).mono ?_
  rintro _ q12 ⟨x12, hA⟩
  have hw : wrong13 4 4 esA 0 3 (j : Int) = 0 := by
    obtain ⟨w1, w2, w3⟩ := esA_gd
    match j, hj1, hj3 with
    | 1, _, _ => exact w1
    | 2, _, _ => exact w2
    | 3, _, _ => exact w3
  rcases hA with ⟨hw', _⟩ | ⟨_, n', s', t', c1, c2, f, sd, en, es, et, hs, ht, hst, g, rfl, S⟩
  · exact absurd hw hw'
  have : n' = 4 := by omega
  subst this
  have : s' = 0 := by omega
  subst this
  have : t' = 3 := by omega
  subst this
  obtain ⟨u1, u2⟩ := S.mx.uniq esA_max esA_ends (by omega)
  have hv : OutF 4 (frE esA) (toE esA) f 0 = 4 := by rw [u1]; decide
  have hs2 : sd 2 = true := (S.sd 2 (by omega)).2 ((u2 2).2 esA_2)
  have hs1 : sd 1 = false := by
    cases e : sd 1
    · rfl
    · exact absurd ((u2 1).1 ((S.sd 1 (by omega)).1 e)) esA_1
  refine rt_ret ⟨_, rfl, _, _, rfl, new_bl_st rfl rfl (by simp [Value.oneCell']) ?_⟩
  intro b16 q18 hb16 x18 B16
  rw [hv]
  refine ifP_of (fun h => by simp at h) (fun _ => ?_)
  refine ifP_of (fun h => by simp at h) (fun _ => ?_)
  refine ⟨_, B16.ld rfl, slcP_mk (ifP_of (fun h => by simp at h) (fun _ => ?_))⟩
  refine ⟨_, B16.ld rfl, slcP_mk (ifP_of (fun h => by simp at h) (fun _ => ?_))⟩
  have Sd := (RS.of_sl S.s2).ext x18
  refine ⟨_, B16.ld rfl, Sd.rdB (j := 2) (by omega) ?_⟩
  rw [hs2]
  refine ifP_of (fun h => by cases h) (fun _ => ?_)
  refine ⟨_, B16.ld rfl, Sd.rdB (j := 1) (by omega) ?_⟩
  rw [hs1]
  refine ifP_of (fun h => by cases h) (fun _ => ?_)
  rw [i64_inc (by omega)]
  exact mu_next (I := I) (k := 4 - (j + 1)) ⟨j + 1, rfl, by omega, hj3, rfl, (xq.trans' x12).trans' x18⟩ (hlt hj3)

theorem FlowSolves_T {w : List Value} {n : Int} {m : Nat} {es : Nat → Ed} (G : GrA h w n m es) (s t k : Int) :
    T Try.prog F.compasslaw13_FlowSolves [.agg ⟨w⟩, .agg ⟨[.int .i64 s, .int .i64 t]⟩, .int .i64 k] h fun r h' => r = .ret (.bool true) ∧ Ext h h' := by
  refine E_compasslaw13_FlowSolves ?_
  unfold B_compasslaw13_FlowSolves
  refine new_bl ?_
  intro b1 q2 hb1 x1 B1_
  refine new_bl ?_
  intro b3 q4 hb3 x3 B3
  have x13 := x1.trans' x3
  refine awake_T.mono ?_
  rintro _ q6 ⟨rfl, x6⟩
  refine rt_ret ⟨_, rfl, ifP_of (fun h => by cases h) (fun _ => ?_)⟩
  have x16 := x13.trans' x6
  have B1_ := (B1_.ext x3).ext x6
  have B3 := B3.ext x6
  have G := G.ext x16
  refine B1_.ldN G.one.1 (end0 B3 (end1 B3 ?_))
  refine (Solve_T G s t k).mono ?_
  rintro _ q14 ⟨x14, hA⟩
  have B1_ := B1_.ext x14
  have B3 := B3.ext x14
  have G := G.ext x14
  rcases hA with ⟨hw, rfl⟩ | ⟨hw, n', s', t', c1, c2, f, sd, rfl, rfl, rfl, hs, ht, hst, g, rfl, S⟩
  · refine rt_ret ⟨_, rfl, _, _, rfl, new_bl_st rfl rfl (by simp [Value.oneCell']) ?_⟩
    intro b18 q20 hb18 x18 B18
    have B1_ := B1_.ext x18
    have B3 := B3.ext x18
    refine B1_.ldN G.one.1 (end0 B3 (end1 B3 ?_))
    refine (Wrong13_R (G.ext x18) s t k).mono ?_
    rintro _ q27 ⟨rfl, x27⟩
    refine rt_ret ⟨_, rfl, ifP_of (fun _ => ?_) (fun h => by simp at h; exact absurd h hw)⟩
    refine ifP_of (fun _ => ?_) (fun h => by simp at h)
    refine ifP_of (fun _ => ?_) (fun h => by simp at h)
    refine (B18.ext x27).ldN rfl ?_
    refine empty_R.mono ?_
    rintro _ q31 ⟨rfl, x31⟩
    exact rt_ret ⟨_, rfl, rfl, (((x16.trans' x14).trans' x18).trans' x27).trans' x31⟩
  · refine rt_ret ⟨_, rfl, _, _, rfl, new_bl_st rfl rfl (by simp [Value.oneCell']) ?_⟩
    intro b18 q20 hb18 x18 B18
    have B1_ := B1_.ext x18
    have B3 := B3.ext x18
    have G := G.ext x18
    refine B1_.ldN G.one.1 (end0 B3 (end1 B3 ?_))
    refine (Wrong13_R G s' t' k).mono ?_
    rintro _ q27 ⟨rfl, x27⟩
    rw [hw]
    refine rt_ret ⟨_, rfl, ifP_of (fun h => by simp at h) (fun _ => ?_)⟩
    have B1_ := B1_.ext x27
    have B3 := B3.ext x27
    have B18 := B18.ext x27
    have G := G.ext x27
    refine B1_.ldN G.one.1 (end0 B3 (end1 B3 ?_))
    refine (Value_R G g.w hs ht hst).mono ?_
    rintro _ q41 ⟨vsd, f2, sd2, rfl, x41, Ss, Mx, hsd⟩
    obtain ⟨u1, u2⟩ := S.mx.uniq Mx g.ends hs
    refine rt_ret ⟨_, _, rfl, ?_⟩
    have B1_ := B1_.ext x41
    have B3 := B3.ext x41
    have B18 := B18.ext x41
    have G := G.ext x41
    have xs := (x18.trans' x27).trans' x41
    refine B1_.ldN G.one.1 ⟨_, B18.ld rfl, _, B18.ld rfl, _, B18.ld rfl, _, B18.ld rfl, ?_⟩
    have So := (RS.of_sl S.s1).ext xs
    have Sd := (RS.of_sl S.s2).ext xs
    refine (Max_R G g So Sd hs ht hst S.mx S.sd).mono ?_
    rintro _ q50 ⟨rfl, x50⟩
    refine rt_ret ⟨_, _, rfl, ?_⟩
    have B3 := B3.ext x50
    have B18 := B18.ext x50
    refine ifP_of (fun _ => ?_) (fun h => by simp at h)
    rw [← u1]
    refine ifP_of (fun _ => ?_) (fun h => by simp at h)
    refine ⟨_, B18.ld rfl, end0 B3 (ifP_of (fun _ => ?_) (fun h => by simp at h))⟩
    refine ⟨_, B18.ld rfl, end1 B3 (ifP_of (fun _ => ?_) (fun h => by simp at h))⟩
    refine ⟨_, B18.ld rfl, ?_⟩
    refine (bools_R (Sd.ext x50) (Ss.ext x50) (fun i hi => ?_) (by have := g.n1; omega)).mono ?_
    · have e1 := S.sd i hi
      have e2 := hsd i hi
      have e3 := u2 i
      cases h1 : sd i <;> cases h2 : sd2 i <;> simp_all
    · rintro _ _ ⟨rfl, rfl⟩
      refine rt_ret ⟨_, rfl, ?_⟩
      refine ifP_of (fun _ => ?_) (fun h => by cases h)
      refine ifP_of (fun _ => ?_) (fun h => by simp at h)
      exact ⟨by simp, ((x16.trans' x14).trans' xs).trans' x50⟩
end

end Go.Proofs.Ythglkcpoofenbaa

/-! From a contract to a row: arguments opened. -/
namespace Go.Proofs.Ythglkcpoofenbaa
open Go Go.ChangeShapes Go.WideShapes Go.Deep Go.RowKit
set_option linter.unusedVariables false

/-- What a world's heap holds, all of it. -/
def hOf (w : World) : H := fun b => w.heap[b]?
theorem hOf_sub (w : World) : Sub (hOf w) w := fun _ _ h => h
theorem hOf_cell {w : World} {a : Addr} {v : Value} (h : w.cell? a = some v) : hcell (hOf w) a = some v := by
  exact h

theorem T.row {P : Program} {f : FuncId} {args : List Value} {w : World} (t : T P f args (hOf w) fun r h' => r = .ret (.bool true) ∧ Ext (hOf w) h') :
    Calls P f args.toArray w fun e w' => e = .returned (.bool true) ∧ Below w.heap.size w w' := by
  refine (t.2 w (hOf_sub w)).mono ?_
  rintro e w' ⟨h', hs, st, hq⟩
  have hr : e = .returned (.bool true) ∧ Ext (hOf w) h' := by
    split at hq
    · obtain ⟨h1, h2⟩ := hq
      cases h1
      exact ⟨rfl, h2⟩
    · obtain ⟨h1, _⟩ := hq
      cases h1
    · exact hq.elim
  refine ⟨hr.1, ⟨st.same.1, st.same.2.1, st.same.2.2, st.size, fun k hk => ?_⟩⟩
  have e1 : w.heap[k]? = some (w.heap[k]'hk) := Array.getElem?_eq_getElem hk
  rw [e1]
  exact hs k _ (hr.2 k _ e1)

def intFields (P : Program) (fs : Array Field) : Bool := (List.range fs.size).all fun i => match fs[i]? with
  | some f => match P.underlying f.type with
    | some (.int .i64) => true
    | _ => false
  | none => false
theorem intFields_of {P : Program} {fs : Array Field} (h : intFields P fs = true) : ∀ (i : Nat) (f : Field), fs[i]? = some f → P.underlying f.type = some (.int .i64) := by
  intro i f hi
  have hlt : i < fs.size := (Array.getElem?_eq_some_iff.1 hi).1
  have := List.all_eq_true.1 h i (List.mem_range.2 hlt)
  simp only [hi] at this
  split at this
  · assumption
  · cases this

section
variable {K : Type} {enc : TypeId × Value → K} {P : Program} {w : World} {base : Nat} {spare : Nat → Bool} {held : Bool}

/-- A slice of records of whole numbers: its cells, and how long it may be. -/
theorem open_recs {t e : TypeId} {fs : Array Field} {a : Option Addr} {len cap B j : Nat} {d : DataW K} {ps : List MemPlace} {ts : List TypeId} {ds : List (DataW K)}
    (ht : P.underlying t = some (.slice e)) (he : P.underlying e = some (.struct fs)) (hone : oneCellFields P fs = true) (hint : intFields P fs = true) (hC : P.cellsOf e = fs.size) (hB : P.bytesOf e = B)
    (hsz : (DataW.weightsEach P ts ds).all (· ≤ reachBytes) = true) (hj : ts[j]? = some t) (hd : ds[j]? = some d)
    (h : DataW.Trod enc P w base spare held t (.slice a len cap) d ps) :
    len * B ≤ 140737488351232 ∧ ∀ i, i < len → ∃ ad, a = some ad ∧ ∀ j, j < fs.size → ∃ n : Int, w.cell? (ad.add (i * fs.size + j)) = some (.int .i64 n) := by
  obtain ⟨fuel, hf⟩ := h
  rcases open_slice ht hf with ⟨hcs, _⟩ | ⟨x, l, c, m, n, D, Pl, hcs, _, hl, _, hm, hx, hi⟩
  · simp [Value.cells] at hcs
    obtain ⟨rfl, rfl, rfl⟩ := hcs
    exact ⟨by simp, fun i hi => by omega⟩
  · simp [Value.cells] at hcs
    obtain ⟨rfl, rfl, rfl⟩ := hcs
    have hlm : len ≤ m := by
      rw [hm]
      split
      · exact hl
      · exact Nat.le_refl _
    obtain ⟨hx, _⟩ := Prod.mk.inj hx
    subst hx
    refine ⟨?_, fun i hil => ⟨x, rfl, fun j hj => ?_⟩⟩
    · have z := sized_slice hsz hj hd ht
      rw [hB] at z
      simp only [List.length_map, List.length_range] at z
      have z : (len + (m - len)) * B ≤ 140737488351232 := z
      calc len * B ≤ (len + (m - len)) * B := Nat.mul_le_mul_right _ (by omega)
        _ ≤ _ := z
    · obtain ⟨cs', hc, ht'⟩ := hi i (by omega)
      rw [hC] at hc
      obtain ⟨ys, n', _, _, hlen, hyl, hg⟩ := DataW.trod_struct he ht'
      obtain ⟨_, hcl, hat⟩ := World.cells?_some hc
      have hfj : fs[j]? = some (fs[j]'hj) := Array.getElem?_eq_getElem hj
      obtain ⟨ho, hk⟩ := hone_of hone j _ hfj
      have hw1 := hg j _ hfj
      rw [ho, hk] at hw1
      have one : (cs'.drop j).take 1 = [cs'[j]'(by omega)] := by
        rw [List.drop_eq_getElem_cons (by omega)]
        rfl
      rw [one, List.getElem?_eq_getElem (by omega)] at hw1
      obtain ⟨z, hz, _, _⟩ := DataW.trod_int (intFields_of hint j _ hfj) hw1
      refine ⟨z, ?_⟩
      rw [← Go.Deep.add_add, hat j hj, List.getElem?_eq_getElem (by omega)]
      simpa using hz
end

end Go.Proofs.Ythglkcpoofenbaa

/-! Arguments opened: graphs, pairs of ends. -/
namespace Go.Proofs.Ythglkcpoofenbaa
open Go Go.ChangeShapes Go.WideShapes Go.Deep Go.RowKit
set_option linter.unusedVariables false

section
variable {K : Type} {enc : TypeId × Value → K} {P : Program} {w : World} {base : Nat} {spare : Nat → Bool} {held : Bool}

theorem okWide_array {r : Reach} {b0 : Nat} {t e : TypeId} {v : Value} {n : Nat} (ht : P.underlying t = some (.array n e)) (h : Value.okWide P w r b0 t v) : ∃ cs, v = .agg cs ∧ cs.size = P.cellsOf t := by
  simp only [Value.okWide, ht] at h
  obtain ⟨cs, h1, h2, _⟩ := h
  exact ⟨cs, h1, h2⟩

/-- A slice of records of whole numbers, wherever it lies. -/
theorem open_recsN {t e : TypeId} {fs : Array Field} {B fuel : Nat} {cs : List Value} {x : DataW K × List MemPlace}
    (ht : P.underlying t = some (.slice e)) (he : P.underlying e = some (.struct fs)) (hone : oneCellFields P fs = true) (hint : intFields P fs = true) (hC : P.cellsOf e = fs.size) (hB : P.bytesOf e = B)
    (hsz : ∀ el sp, x.1 = .slice el sp → (el.length + sp.length) * B ≤ 140737488351232)
    (hf : DataW.trod enc P w base spare held fuel t cs = some x) :
    ∃ a len cap, cs = [.slice a len cap] ∧ len * B ≤ 140737488351232 ∧ ∀ i, i < len → ∃ ad, a = some ad ∧ ∀ j, j < fs.size → ∃ n : Int, w.cell? (ad.add (i * fs.size + j)) = some (.int .i64 n) := by
  rcases open_slice ht hf with ⟨hcs, _⟩ | ⟨x', l, c, m, n, D, Pl, hcs, _, hl, _, hm, hx, hi⟩
  · exact ⟨none, 0, 0, hcs, by simp, fun i hi => by omega⟩
  · have hlm : l ≤ m := by
      rw [hm]
      split
      · exact hl
      · exact Nat.le_refl _
    refine ⟨some x', l, c, hcs, ?_, fun i hil => ⟨x', rfl, fun j hj => ?_⟩⟩
    · have z := hsz _ _ (by rw [hx])
      simp only [List.length_map, List.length_range] at z
      calc l * B ≤ (l + (m - l)) * B := Nat.mul_le_mul_right _ (by omega)
        _ ≤ _ := z
    · obtain ⟨cs', hc, ht'⟩ := hi i (by omega)
      rw [hC] at hc
      obtain ⟨ys, n', _, _, hlen, hyl, hg⟩ := DataW.trod_struct he ht'
      obtain ⟨_, hcl, hat⟩ := World.cells?_some hc
      have hfj : fs[j]? = some (fs[j]'hj) := Array.getElem?_eq_getElem hj
      obtain ⟨ho, hk⟩ := hone_of hone j _ hfj
      have hw1 := hg j _ hfj
      rw [ho, hk] at hw1
      have one : (cs'.drop j).take 1 = [cs'[j]'(by omega)] := by
        rw [List.drop_eq_getElem_cons (by omega)]
        rfl
      rw [one, List.getElem?_eq_getElem (by omega)] at hw1
      obtain ⟨z, hz, _, _⟩ := DataW.trod_int (intFields_of hint j _ hfj) hw1
      refine ⟨z, ?_⟩
      rw [← Go.Deep.add_add, hat j hj, List.getElem?_eq_getElem (by omega)]
      simpa using hz

theorem open_pair {r : Reach} {b0 : Nat} {t e : TypeId} {v : Value} {d : DataW K} {ps : List MemPlace} (ht : P.underlying t = some (.array 2 e)) (he : P.underlying e = some (.int .i64)) (hC : P.cellsOf t = 2) (hCe : P.cellsOf e = 1)
    (hv : Value.okWide P w r b0 t v) (h : DataW.Trod enc P w base spare held t v d ps) : ∃ s u : Int, v = .agg ⟨[.int .i64 s, .int .i64 u]⟩ := by
  obtain ⟨cs, rfl, hsz⟩ := okWide_array ht hv
  obtain ⟨l⟩ := cs
  match l, hsz.trans hC with
  | [c0, c1], _ =>
    obtain ⟨fuel, hf⟩ := h
    obtain ⟨xs, m, _, _, _, hl, hg⟩ := DataW.trod_array ht hf
    have h0 := hg 0 (by omega)
    have h1 := hg 1 (by omega)
    rw [hCe] at h0 h1
    rw [List.getElem?_eq_getElem (by omega)] at h0 h1
    have h0 : DataW.trod enc P w base spare held m e [c0] = _ := h0
    have h1 : DataW.trod enc P w base spare held m e [c1] = _ := h1
    obtain ⟨s, hs, _⟩ := DataW.trod_int he h0
    obtain ⟨u, hu, _⟩ := DataW.trod_int he h1
    simp only [List.cons.injEq, and_true] at hs hu
    subst hs hu
    exact ⟨s, u, rfl⟩

theorem open_struct2 {r : Reach} {b0 : Nat} {t : TypeId} {f0 f1 : Field} {v : Value} {d : DataW K} {p : List MemPlace} (hs : P.underlying t = some (.struct #[f0, f1])) (hone : oneCellFields P #[f0, f1] = true) (hC : P.cellsOf t = 2)
    (hv : Value.okWide P w r b0 t v) (h : DataW.Trod enc P w base spare held t v d p) :
    ∃ (v0 v1 : Value) (y0 y1 : DataW K × List MemPlace) (n : Nat), v = .agg ⟨[v0, v1]⟩ ∧ d = .agg [y0.1, y1.1] ∧
      DataW.trod enc P w base spare held n f0.type [v0] = some y0 ∧ DataW.trod enc P w base spare held n f1.type [v1] = some y1 := by
  obtain ⟨cs, rfl, hsz⟩ := okWide_struct hs hv
  obtain ⟨l⟩ := cs
  match l, hsz.trans hC with
  | [c0, c1], _ =>
    obtain ⟨fuel, hf⟩ := h
    obtain ⟨xs, n, _, hx, _, hlen, hg⟩ := DataW.trod_struct hs hf
    obtain ⟨o0, k0⟩ := hone_of hone 0 f0 rfl
    obtain ⟨o1, k1⟩ := hone_of hone 1 f1 rfl
    match xs, hlen with
    | [y0, y1], _ =>
      simp only [Prod.mk.injEq] at hx
      exact ⟨c0, c1, y0, y1, n, rfl, by simpa using hx.1, by simpa [Value.cells, o0, k0] using hg 0 f0 rfl, by simpa [Value.cells, o1, k1] using hg 1 f1 rfl⟩
end

/-- Edges read are edges. -/
theorem Gs.of_cells {W : World} {a : Option Addr} {len cap : Nat} (h : ∀ i, i < len → ∃ ad, a = some ad ∧ ∀ j, j < 4 → ∃ n : Int, W.cell? (ad.add (i * 4 + j)) = some (.int .i64 n)) :
    ∃ es, Gs (hOf W) (.slice a len cap) len es := by
  have h2 : ∀ i, ∃ o : Ed, i < len → ∃ ad, a = some ad ∧ hcells (hOf W) (ad.add (i * 4)) o.vs := by
    intro i
    by_cases hi : i < len
    · obtain ⟨ad, rfl, hc⟩ := h i hi
      obtain ⟨n0, h0⟩ := hc 0 (by decide)
      obtain ⟨n1, h1⟩ := hc 1 (by decide)
      obtain ⟨n2, h2⟩ := hc 2 (by decide)
      obtain ⟨n3, h3⟩ := hc 3 (by decide)
      refine ⟨⟨n0, n1, n2, n3⟩, fun _ => ⟨ad, rfl, fun j v hj => ?_⟩⟩
      rw [Go.Deep.add_add]
      match j, hj with
      | 0, hj => cases hj; exact hOf_cell h0
      | 1, hj => cases hj; exact hOf_cell h1
      | 2, hj => cases hj; exact hOf_cell h2
      | 3, hj => cases hj; exact hOf_cell h3
    · exact ⟨⟨0, 0, 0, 0⟩, fun h => absurd h hi⟩
  exact ⟨fun i => Classical.choose (h2 i), a, cap, rfl, fun i hi => Classical.choose_spec (h2 i) hi⟩

end Go.Proofs.Ythglkcpoofenbaa

/-! What the rows share. -/
namespace Go.Proofs.Ythglkcpoofenbaa
open Go Go.ChangeShapes Go.WideShapes Go.ChangeAt Go.RowKit
set_option linter.unusedVariables false

theorem own : ownKnob Try.prog.godebug = none := by kernel_rfl
theorem laidOut : laidOutB Try.prog = true := by kernel_rfl

end Go.Proofs.Ythglkcpoofenbaa

