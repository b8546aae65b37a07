import Derived.Recover
import Derived.Laws.StructEq
import Derived.Test.YtdblngaacnpgmaaAK2
namespace Go.Proofs.Ytdblngaacnpgmaa
open Go
open Classical
set_option linter.unusedVariables false
set_option linter.unusedSimpArgs false

structure PvI (n m : Nat) (fr to : Nat → Nat) (cap : Nat → Int) (s t : Nat) (K : Int) (room ht ex nxt : Nat → Int) (Q : List Nat) (cur : Option Nat) : Prop where
  rm : RmP m cap room
  hs : ht s = n
  htt : ht t = 0
  hb : ∀ u, u < n → 0 ≤ ht u ∧ ht u ≤ 2 * n
  val : ∀ a, a < 2 * m → 0 < room a → ht (tlA fr to a) ≤ ht (hdA fr to a) + 1
  ex0 : ∀ u, u < n → u ≠ s → ex u = - OutF m fr to (onR room) u ∧ 0 ≤ ex u
  exs : ex s = K - OutF m fr to (onR room) s
  cov : ∀ u, u < n → u ≠ s → u ≠ t → 0 < ex u → u ∈ Q ∨ cur = some u
  mem : ∀ u, u ∈ Q → u < n ∧ u ≠ s ∧ u ≠ t
  nb : ∀ u, u < n → 0 ≤ nxt u ∧ nxt u ≤ (arcsL fr to m u).length
  ca : ∀ u, u < n → ∀ a ∈ (arcsL fr to m u).take (nxt u).toNat, ¬ (0 < room a ∧ ht u = ht (hdA fr to a) + 1)
section
variable {n m s t : Nat} {fr to : Nat → Nat} {cap room ht ex nxt : Nat → Int} {Q : List Nat} {cur : Option Nat} {K : Int}

/-- No side that holds what is too much is closed. -/
theorem exc_closed (R : RmP m cap room) (hn : ∀ i, i < m → fr i < n ∧ to i < n) {C : Nat → Prop} (hc : ∀ a, a < 2 * m → 0 < room a → C (tlA fr to a) → C (hdA fr to a))
    (hex : ∀ u, u < n → C u → OutF m fr to (onR room) u ≤ 0) {v : Nat} (hv : v < n) (cv : C v) (hev : OutF m fr to (onR room) v < 0) : False := by
  have e := out_side (f := onR room) hn C
  have h1 : 0 ≤ sumN m fun i => (if C (fr i) then onR room i else 0) - (if C (to i) then onR room i else 0) := by
    refine sumN_nonneg fun i hi => ?_
    have p1 := R.pos (2 * i + 1) (by omega)
    have c1 := hc (2 * i + 1) (by omega)
    unfold tlA hdA at c1
    rw [if_neg (by omega), if_neg (by omega), show (2 * i + 1) / 2 = i by omega] at c1
    unfold onR
    by_cases h1 : C (fr i) <;> by_cases h2 : C (to i) <;> simp [h1, h2] <;> try omega
    by_cases h3 : 0 < room (2 * i + 1)
    · exact absurd (c1 h3 h2) h1
    · omega
  have h2 : sumN n (fun u => if C u then OutF m fr to (onR room) u else 0) ≤ OutF m fr to (onR room) v := by
    have := sumN_mem (f := fun u => -(if C u then OutF m fr to (onR room) u else 0)) (k := n) (i := v) (fun u hu => by
      by_cases h : C u
      · rw [if_pos h]; have := hex u hu h; omega
      · rw [if_neg h]; omega) hv
    have e2 : sumN n (fun u => -(if C u then OutF m fr to (onR room) u else 0)) = - sumN n (fun u => if C u then OutF m fr to (onR room) u else 0) := by
      have := sumN_mul (c := -1) (f := fun u => if C u then OutF m fr to (onR room) u else 0) (k := n)
      simp only [Int.neg_mul, Int.one_mul] at this
      exact this
    rw [e2, if_pos cv] at this
    omega
  omega

theorem PvI.low (P : PvI n m fr to cap s t K room ht ex nxt Q cur) (hn : ∀ i, i < m → fr i < n ∧ to i < n) (hs : s < n) {v : Nat} (hv : v < n) (hvs : v ≠ s) (hev : 0 < ex v) : ht v + 1 ≤ 2 * n := by
  apply Classical.byContradiction
  intro hno
  have hbv := P.hb v hv
  obtain ⟨k, hk, hg⟩ := gap_ex (n := n) (ht := ht) n
  have h1 := hg s hs
  have h2 := hg v hv
  rw [P.hs] at h1
  have e1 := P.ex0 v hv hvs
  refine exc_closed P.rm hn (C := fun u => (n : Int) + k < ht u) (fun a ha hr hc => ?_) (fun u hu hc => ?_) hv (by show (n : Int) + k < ht v; omega) (by omega)
  · have := P.val a ha hr
    have := hg _ (hd_lt hn ha)
    show (n : Int) + k < ht (hdA fr to a)
    have : (n : Int) + k < ht (tlA fr to a) := hc
    omega
  · have hc : (n : Int) + k < ht u := hc
    have := P.ex0 u hu (by rintro rfl; rw [P.hs] at hc; omega)
    omega

/-- The sink cannot be reached when all is done. -/
theorem PvI.fin (P : PvI n m fr to cap s t K room ht ex nxt [] none) (hn : ∀ i, i < m → fr i < n ∧ to i < n) (hs : s < n) (ht' : t < n) : FlS n m fr to cap s t room ∧ ¬ Rch (ArS m fr to room) s t := by
  refine ⟨⟨P.rm, fun v hv h1 h2 => ?_⟩, fun r => ?_⟩
  · have e := P.ex0 v hv h1
    by_cases hp : 0 < ex v
    · rcases P.cov v hv h1 h2 hp with h | h
      · cases h
      · cases h
    · omega
  · obtain ⟨k, hk, hg⟩ := gap_ex (n := n) (ht := ht) 0
    have h1 := hg s hs
    have h2 := hg t ht'
    rw [P.hs] at h1
    rw [P.htt] at h2
    have : 0 + (k : Int) < ht t := r.closed (C := fun u => 0 + (k : Int) < ht u) (by rw [P.hs]; omega) (by
      rintro u w hu ⟨a, ha, rfl, rfl, hr⟩
      have := P.val a ha hr
      have := hg _ (hd_lt hn ha)
      show 0 + (k : Int) < ht (hdA fr to a)
      omega)
    rw [P.htt] at this
    omega

theorem PvI.skip (P : PvI n m fr to cap s t K room ht ex nxt Q cur) {v l : Nat} (hv : v < n) (hl : nxt v = l) (hla : l < (arcsL fr to m v).length)
    (hno : ¬ (0 < room (arcsL fr to m v)[l] ∧ ht v = ht (hdA fr to (arcsL fr to m v)[l]) + 1)) : PvI n m fr to cap s t K room ht ex (upd nxt v ((l + 1 : Nat) : Int)) Q cur := by
  refine ⟨P.rm, P.hs, P.htt, P.hb, P.val, P.ex0, P.exs, P.cov, P.mem, ?_, ?_⟩
  · intro u hu
    have := P.nb u hu
    unfold upd
    by_cases e : u = v
    · subst e; rw [if_pos rfl]; omega
    · rw [if_neg e]; exact this
  · intro u hu a ha
    by_cases e : u = v
    · subst e
      have e2 : upd nxt u ((l + 1 : Nat) : Int) u = ((l + 1 : Nat) : Int) := if_pos rfl
      rw [e2, Int.toNat_natCast, List.take_succ_eq_append_getElem hla] at ha
      rcases List.mem_append.1 ha with h | h
      · exact P.ca u hu a (by rw [hl, Int.toNat_natCast]; exact h)
      · rw [List.mem_singleton] at h
        rw [h]; exact hno
    · have e2 : upd nxt v ((l + 1 : Nat) : Int) u = nxt u := if_neg e
      rw [e2] at ha
      exact P.ca u hu a ha
end

end Go.Proofs.Ytdblngaacnpgmaa

namespace Go.Proofs.Ytdblngaacnpgmaa
open Go
set_option linter.unusedVariables false
set_option linter.unusedSimpArgs false

theorem giveX_at {ex : Nat → Int} {v w : Nat} {x : Int} (u : Nat) : giveX ex v w x u = ex u - (if v = u then x else 0) + (if w = u then x else 0) := by
  unfold giveX upd
  by_cases e1 : u = w
  · subst e1
    rw [if_pos rfl, if_pos rfl]
    by_cases e2 : u = v
    · subst e2; rw [if_pos rfl, if_pos rfl]
    · rw [if_neg e2, if_neg (fun h => e2 h.symm)]; omega
  · rw [if_neg e1, if_neg (c := w = u) (fun h => e1 h.symm)]
    by_cases e2 : u = v
    · subst e2; rw [if_pos rfl, if_pos rfl]; omega
    · rw [if_neg e2, if_neg (fun h => e2 h.symm)]; omega
theorem giveQ_le {s t w : Nat} {ex : Nat → Int} {Q : List Nat} : (giveQ s t ex Q w).length ≤ Q.length + 1 := by
  unfold giveQ; split <;> simp
/-- While all is sent from the source. -/
structure PiI (n m : Nat) (fr to : Nat → Nat) (cap : Nat → Int) (s t : Nat) (K : Int) (j : Nat) (room ex : Nat → Int) (Q : List Nat) : Prop where
  rm : RmP m cap room
  ex0 : ∀ u, u < n → u ≠ s → ex u = - OutF m fr to (onR room) u ∧ 0 ≤ ex u
  exs : ex s = K - OutF m fr to (onR room) s
  exs0 : 0 ≤ ex s
  kb : 0 ≤ K ∧ K ≤ j * 1048576
  cov : ∀ u, u < n → u ≠ s → u ≠ t → 0 < ex u → u ∈ Q
  mem : ∀ u, u ∈ Q → u < n ∧ u ≠ s ∧ u ≠ t
  ql : Q.length ≤ j
  zero : ∀ a ∈ (arcsL fr to m s).take j, hdA fr to a ≠ s → room a = 0

section
variable {n m s t : Nat} {fr to : Nat → Nat} {cap room ht ex nxt : Nat → Int} {Q : List Nat} {cur : Option Nat} {K : Int}
theorem PiI.next {j : Nat} (P : PiI n m fr to cap s t K j room ex Q) (hn : ∀ i, i < m → fr i < n ∧ to i < n) (hc : ∀ i, i < m → cap i ≤ 1048576) (hj : j < (arcsL fr to m s).length) {a : Nat} (ha : (arcsL fr to m s)[j] = a) :
    PiI n m fr to cap s t (K + room a) (j + 1) (sndR room a (room a)) (giveX (upd ex s (ex s + room a)) s (hdA fr to a) (room a)) (giveQ s t (upd ex s (ex s + room a)) Q (hdA fr to a)) := by
  have hm := mem_arcsL.1 (List.getElem_mem hj)
  rw [ha] at hm
  have hr0 := P.rm.pos a hm.1
  have hrp := P.rm.pr hm.1
  have hrq := P.rm.pos _ (prA_lt hm.1)
  have hca := hc (a / 2) (by omega)
  have hw := hd_lt hn hm.1
  have os := out_snd (fr := fr) (to := to) (room := room) (x := room a) hm.1
  rw [hm.2] at os
  have uo : ∀ u, u ≠ s → upd ex s (ex s + room a) u = ex u := fun u h => if_neg h
  have us : upd ex s (ex s + room a) s = ex s + room a := if_pos rfl
  refine ⟨P.rm.snd hm.1 hr0 (Int.le_refl _), ?_, ?_, ?_, ?_, ?_, ?_, ?_, ?_⟩
  · intro u hu hus
    have := P.ex0 u hu hus
    rw [os, giveX_at, uo u hus, if_neg (c := s = u) (fun h => hus h.symm)]
    split <;> omega
  · rw [os, giveX_at, us, if_pos rfl]
    have := P.exs
    split <;> omega
  · rw [giveX_at, us, if_pos rfl]
    have := P.exs0
    split <;> omega
  · have := P.kb
    omega
  · intro u hu h1 h2 h3
    rw [giveX_at, uo u h1, if_neg (c := s = u) (fun h => h1 h.symm)] at h3
    unfold giveQ
    by_cases e1 : hdA fr to a = u
    · subst e1
      by_cases e2 : ex (hdA fr to a) = 0
      · rw [if_pos ⟨by rw [uo _ h1]; exact e2, h1, h2⟩]; simp
      · rw [if_neg (fun h => e2 (by rw [← uo _ h1]; exact h.1))]
        have := P.ex0 _ hu h1
        exact P.cov _ hu h1 h2 (by omega)
    · rw [if_neg e1] at h3
      have := P.cov u hu h1 h2 (by omega)
      split
      · exact List.mem_append_left _ this
      · exact this
  · intro u hu
    unfold giveQ at hu
    split at hu
    · rename_i h
      rcases List.mem_append.1 hu with h2 | h2
      · exact P.mem u h2
      · rw [List.mem_singleton] at h2
        subst h2
        exact ⟨hw, h.2.1, h.2.2⟩
    · exact P.mem u hu
  · have := giveQ_le (s := s) (t := t) (w := hdA fr to a) (ex := upd ex s (ex s + room a)) (Q := Q)
    have := P.ql
    omega
  · intro b hb hbs
    have z : b ≠ a → room b = 0 := by
      intro hne
      rw [List.take_succ_eq_append_getElem hj] at hb
      rcases List.mem_append.1 hb with h | h
      · exact P.zero b h hbs
      · rw [List.mem_singleton] at h; exact absurd (h.trans ha) hne
    have hbm := mem_arcsL.1 (List.mem_of_mem_take hb)
    by_cases e1 : b = a
    · subst e1; rw [sndR_a]; omega
    · by_cases e2 : b = prA a
      · exfalso
        rw [e2, hd_pr, hm.2] at hbs
        exact hbs rfl
      · rw [sndR_o e1 e2]; exact z e1

theorem PiI.start {j : Nat} (P : PiI n m fr to cap s t K j room ex Q) (hj : j = (arcsL fr to m s).length) (hst : s ≠ t) (hn : ∀ i, i < m → fr i < n ∧ to i < n) (hs : s < n) :
    PvI n m fr to cap s t K room (upd (fun _ => 0) s n) ex (fun _ => 0) Q none := by
  have u1 : upd (fun _ => (0 : Int)) s n s = n := if_pos rfl
  have u2 : ∀ u, u ≠ s → upd (fun _ => (0 : Int)) s n u = 0 := fun u h => if_neg h
  subst hj
  refine ⟨P.rm, u1, u2 _ fun h => hst h.symm, ?_, ?_, P.ex0, P.exs, fun u hu h1 h2 h3 => .inl (P.cov u hu h1 h2 h3), P.mem, fun u hu => ⟨Int.le_refl _, by omega⟩, fun u hu a ha => by simp at ha⟩
  · intro u hu
    by_cases e : u = s
    · subst e; rw [u1]; omega
    · rw [u2 u e]; omega
  · intro a ha hr
    by_cases e : tlA fr to a = s
    · by_cases e2 : hdA fr to a = s
      · rw [e, e2]; omega
      · have := P.zero a (by rw [List.take_length]; exact mem_arcsL.2 ⟨ha, e⟩) e2
        omega
    · rw [u2 _ e]
      by_cases e2 : hdA fr to a = s
      · rw [e2, u1]; omega
      · rw [u2 _ e2]; omega

end

end Go.Proofs.Ytdblngaacnpgmaa

namespace Go.Proofs.Ytdblngaacnpgmaa
open Go
set_option linter.unusedVariables false
set_option linter.unusedSimpArgs false

theorem Forest.of {own own' : Own} {h h' : H} {bf bn n : Nat} {par tv : Nat → Int} {M : List Nat} (P : Forest h bf bn n par tv) (F : Fm M own h own' h') (h1 : own bf ∉ M) (h2 : own bn ∉ M) : Forest h' bf bn n par tv := by
  obtain ⟨sm, fst, e, st, L, pd, fz, I⟩ := P
  obtain ⟨ne, ef, hd⟩ := fz.hd
  exact ⟨sm, fst, e, st, L, pd, ⟨⟨ne, ef, F.keep _ _ hd h1⟩, F.keep _ _ fz.at_ h2⟩, I⟩
theorem Forest.some_ {h : H} {bf bn n : Nat} {par tv : Nat → Int} (P : Forest h bf bn n par tv) : ∃ o, h bn = some o := by
  obtain ⟨sm, fst, e, st, L, pd, fz, I⟩ := P
  exact ⟨_, fz.at_⟩
theorem Forest.some2 {h : H} {bf bn n : Nat} {par tv : Nat → Int} (P : Forest h bf bn n par tv) : (∃ o, h bf = some o) ∧ bf ≠ bn := by
  obtain ⟨sm, fst, e, st, L, pd, fz, I⟩ := P
  exact ⟨⟨_, fz.hd.2.choose_spec⟩, fz.hd.1⟩

/-- trees in the heap: owners 5 (the struct), 6 (via), 7 (level), 8 (next), 9 and 11 (the forest). -/
structure Tr (own : Own) (h : H) (bt bn bf bg n m : Nat) (fr to : Nat → Nat) (s t : Nat) (room lev nxt via par tv : Nat → Int) : Prop where
  net : Net own h bn n m fr to s t room
  ex : ∃ vv vl vn, B1 own h 5 bt [.pointer (some (bk bn)), fo bf, vv, vl, vn] ∧ S1 own h 6 vv (ints n via) ∧ S1 own h 7 vl (ints n lev) ∧ S1 own h 8 vn (ints n nxt)
  fo_ : Forest h bf bg n par tv
  o9 : own bf = 9
  o11 : own bg = 11
/-- v hangs by its arc a. -/
structure Hg (n m : Nat) (fr to : Nat → Nat) (lev0 lev E nxt via par tv : Nat → Int) (v a : Nat) : Prop where
  via_ : via v = a
  am : a < 2 * m
  tl : tlA fr to a = v
  nx : ∃ l : Nat, nxt v = l ∧ (arcsL fr to m v)[l]? = some a
  par_ : par v = (hdA fr to a : Nat)
  tv_ : tv v = E a
  l1 : lev v = lev0 v
  l2 : lev (hdA fr to a) = lev0 (hdA fr to a)
  l3 : lev0 (hdA fr to a) = lev0 v + 1
  l4 : 0 ≤ lev0 v
/-- E: the rooms if all hung off. -/
structure TrI (n m : Nat) (fr to : Nat → Nat) (cap : Nat → Int) (s t : Nat) (lev0 lev E room nxt via par tv : Nat → Int) : Prop where
  rmE : RmP m cap E
  rmR : RmP m cap room
  lk : ∀ v, v < n → (via v = -1 ∧ par v = -1) ∨ ∃ a, Hg n m fr to lev0 lev E nxt via par tv v a
  eq : ∀ b, b < 2 * m → (∀ v, v < n → via v ≠ b ∧ via v ≠ prA b) → room b = E b
  nb : ∀ u, u < n → 0 ≤ nxt u ∧ nxt u ≤ (arcsL fr to m u).length
  al : ∀ w, w < n → lev w = lev0 w ∨ (lev w = -1 ∧ nxt w = (arcsL fr to m w).length ∧ w ≠ t ∧ w ≠ s)

theorem RmP.snd' {m : Nat} {cap room : Nat → Int} (R : RmP m cap room) {a : Nat} {x : Int} (ha : a < 2 * m) (h0 : 0 ≤ room (prA a) + x) (h1 : 0 ≤ room a - x) : RmP m cap (sndR room a x) := by
  have hp := prA_lt ha
  refine ⟨fun b hb => ?_, fun i hi => ?_⟩
  · by_cases e1 : b = a
    · subst e1; rw [sndR_a]; omega
    · by_cases e2 : b = prA a
      · subst e2; rw [sndR_p]; omega
      · rw [sndR_o e1 e2]; exact R.pos b hb
  · have e0 := R.sum i hi
    by_cases e1 : 2 * i = a
    · subst e1
      have e2 : prA (2 * i) = 2 * i + 1 := by unfold prA; rw [if_pos (by omega)]
      have p := sndR_p (room := room) (a := 2 * i) (x := x)
      rw [e2] at p
      rw [sndR_a, p]; omega
    · by_cases e2 : 2 * i + 1 = a
      · subst e2
        have e3 : prA (2 * i + 1) = 2 * i := by unfold prA; rw [if_neg (by omega)]; omega
        have p := sndR_p (room := room) (a := 2 * i + 1) (x := x)
        rw [e3] at p
        rw [sndR_a, p]; omega
      · have : 2 * i ≠ prA a ∧ 2 * i + 1 ≠ prA a := by unfold prA; split <;> omega
        rw [sndR_o e1 this.1, sndR_o e2 this.2]; exact e0

section
variable {n m s t : Nat} {fr to : Nat → Nat} {cap lev0 lev E room nxt via par tv : Nat → Int}
theorem TrI.hg (I : TrI n m fr to cap s t lev0 lev E room nxt via par tv) {v : Nat} (hv : v < n) (h : via v ≠ -1) : ∃ a, Hg n m fr to lev0 lev E nxt via par tv v a := by
  rcases I.lk v hv with h2 | h2
  · exact absurd h2.1 h
  · exact h2
/-- No two hang by the same edge. -/
theorem Hg.ne {v u a b : Nat} (g : Hg n m fr to lev0 lev E nxt via par tv v a) (k : Hg n m fr to lev0 lev E nxt via par tv u b) (h : v ≠ u) : b ≠ a ∧ b ≠ prA a := by
  constructor
  · rintro rfl; exact h (g.tl.symm.trans k.tl)
  · rintro rfl
    have h1 := k.l3
    have h2 := g.l3
    rw [hd_pr] at h1
    have h3 := k.tl
    rw [tl_pr] at h3
    rw [g.tl] at h1
    rw [h3] at h2
    omega
theorem TrI.drop (I : TrI n m fr to cap s t lev0 lev E room nxt via par tv) {v a : Nat} (hv : v < n) (g : Hg n m fr to lev0 lev E nxt via par tv v a) :
    TrI n m fr to cap s t lev0 lev E (sndR room a (room a - E a)) nxt (upd via v (-1)) (upd par v (-1)) (upd tv v 0) := by
  have p1 := I.rmE.pos a g.am
  have p2 := I.rmE.pos _ (prA_lt g.am)
  have q1 := I.rmE.pr g.am
  have q2 := I.rmR.pr g.am
  refine ⟨I.rmE, I.rmR.snd' g.am (by omega) (by omega), ?_, ?_, I.nb, I.al⟩
  · intro u hu
    by_cases e : u = v
    · subst e; exact .inl ⟨if_pos rfl, if_pos rfl⟩
    · have e1 : upd via v (-1) u = via u := if_neg e
      have e2 : upd par v (-1) u = par u := if_neg e
      have e3 : upd tv v 0 u = tv u := if_neg e
      rcases I.lk u hu with h | ⟨b, k⟩
      · exact .inl ⟨e1.trans h.1, e2.trans h.2⟩
      · exact .inr ⟨b, e1.trans k.via_, k.am, k.tl, k.nx, e2.trans k.par_, e3.trans k.tv_, k.l1, k.l2, k.l3, k.l4⟩
  · intro b hb hno
    by_cases e1 : b = a
    · subst e1; rw [sndR_a]; omega
    · by_cases e2 : b = prA a
      · subst e2; rw [sndR_p]; omega
      · rw [sndR_o e1 e2]
        refine I.eq b hb fun u hu => ?_
        by_cases e : u = v
        · subst e
          rw [g.via_]
          have : a ≠ prA b := by rintro rfl; exact e2 (prA_pr b).symm
          omega
        · have e3 : upd via v (-1) u = via u := if_neg e
          have := hno u hu
          rwa [e3] at this
end

section
variable {own : Own} {h : H} {bt bn bf bg n m s t : Nat} {fr to : Nat → Nat} {cap lev0 lev E room nxt via par tv : Nat → Int}
theorem Tr.fm {own' : Own} {h' : H} {M : List Nat} (P : Tr own h bt bn bf bg n m fr to s t room lev nxt via par tv) (F : Fm M own h own' h') (hM : ∀ i, i ∈ M → 11 < i ∧ i < 20) :
    Tr own' h' bt bn bf bg n m fr to s t room lev nxt via par tv := by
  have no : ∀ j, j ≤ 11 → j ∉ M := fun j hj hm => by have := hM j hm; omega
  obtain ⟨vv, vl, vn, k5, k6, k7, k8⟩ := P.ex
  obtain ⟨⟨o1, e1⟩, _⟩ := P.fo_.some2
  obtain ⟨o2, e2⟩ := P.fo_.some_
  exact ⟨P.net.fm F fun i hi => by have := hM i hi; omega, ⟨vv, vl, vn, k5.fm F (no _ (by omega)), k6.fm F (no _ (by omega)), k7.fm F (no _ (by omega)), k8.fm F (no _ (by omega))⟩,
    P.fo_.of F (by rw [P.o9]; exact no _ (by omega)) (by rw [P.o11]; exact no _ (by omega)), (F.stay _ _ e1).2.trans P.o9, (F.stay _ _ e2).2.trans P.o11⟩
/-- Behind a change of the forest alone. -/
theorem Tr.kp {h' : H} {par' tv' : Nat → Int} (P : Tr own h bt bn bf bg n m fr to s t room lev nxt via par tv) (k : Kp bg h h') (Q : Forest h' bf bg n par' tv') :
    Fm [11] own h own h' ∧ Tr own h' bt bn bf bg n m fr to s t room lev nxt via par' tv' := by
  have F : Fm [11] own h own h' := Fm.kp k P.o11 Q.some_
  obtain ⟨vv, vl, vn, k5, k6, k7, k8⟩ := P.ex
  exact ⟨F, P.net.fm F (by simp), ⟨vv, vl, vn, k5.fm F (by simp <;> omega), k6.fm F (by simp <;> omega), k7.fm F (by simp <;> omega), k8.fm F (by simp <;> omega)⟩, Q, P.o9, P.o11⟩

end

end Go.Proofs.Ytdblngaacnpgmaa

namespace Go.Proofs.Ytdblngaacnpgmaa
open Go
set_option linter.unusedVariables false
set_option linter.unusedSimpArgs false

theorem upd_self {f : Nat → Int} {i : Nat} : upd f i (f i) = f := by
  funext j; unfold upd
  split
  · rename_i h; rw [h]
  · rfl
theorem upd_upd {f : Nat → Int} {i : Nat} {x y : Int} : upd (upd f i x) i y = upd f i y := by
  funext j; unfold upd
  split <;> rfl
theorem upd_at {f : Nat → Int} {i : Nat} {x : Int} : upd f i x i = x := if_pos rfl
theorem upd_ne {f : Nat → Int} {i j : Nat} {x : Int} (h : j ≠ i) : upd f i x j = f j := if_neg h

end Go.Proofs.Ytdblngaacnpgmaa

namespace Go.Proofs.Ytdblngaacnpgmaa
open Go
set_option linter.unusedVariables false
set_option linter.unusedSimpArgs false

theorem UpW.pair {n : Nat} {par : Nat → Int} {d : Nat → Nat} (hd : ∀ v u : Nat, v < n → par v = u → d u < d v) {v : Nat} {l : List Nat} (a : UpW par v l) :
    (∀ x ∈ l, x < n) → l.Pairwise (fun a b => d b < d a) ∧ ∀ x ∈ l, d x ≤ d v := by
  induction a with
  | root h => intro hl; exact ⟨List.pairwise_singleton .., fun x hx => by rw [List.mem_singleton.1 hx]; exact Nat.le_refl _⟩
  | @step v u l h a ih =>
    intro hl
    obtain ⟨h1, h2⟩ := ih (fun x hx => hl x (List.mem_cons_of_mem _ hx))
    have := hd v u (hl v (by simp)) h
    refine ⟨List.Pairwise.cons (fun x hx => ?_) h1, fun x hx => ?_⟩
    · have := h2 x hx; omega
    · rcases List.mem_cons.1 hx with rfl | hx
      · exact Nat.le_refl _
      · have := h2 x hx; omega
theorem UpW.lt {n : Nat} {par tv : Nat → Int} (F : Fst n par tv) {v : Nat} {l : List Nat} (hv : v < n) (a : UpW par v l) : ∀ x ∈ l, x < n := by
  obtain ⟨l', h1, h2⟩ := UpW.exists F v hv
  rw [a.uniq h1]; exact h2
theorem UpW.nodup {n : Nat} {par tv : Nat → Int} (F : Fst n par tv) {v : Nat} {l : List Nat} (hv : v < n) (a : UpW par v l) : l.Nodup := by
  obtain ⟨d, hd⟩ := F.acy
  refine (a.pair hd (a.lt F hv)).1.imp ?_
  intro a b h e
  subst e
  omega
end Go.Proofs.Ytdblngaacnpgmaa

namespace Go.Proofs.Ytdblngaacnpgmaa
open Go
set_option linter.unusedVariables false
set_option linter.unusedSimpArgs false

/-- A flow as Go holds it. -/
abbrev flV (s t : Int) (on side : Value) : List Value := [.int .i64 s, .int .i64 t, on, side]
abbrev flZ : List Value := flV 0 0 (.slice none 0 0) (.slice none 0 0)
abbrev slV (b n : Nat) : Value := .slice (some (bk b)) n n
/-- What Solve answers where nothing is wrong. -/
structure SolR (h h' : H) (n m : Nat) (es : Nat → Ed) (s t : Nat) (b1 b2 : Nat) (f : Nat → Int) (side : Nat → Bool) : Prop where
  n1 : h b1 = none
  n2 : h b2 = none
  ne : b1 ≠ b2
  s1 : Sl h' b1 (slV b1 m) (ints m f)
  s2 : Sl h' b2 (slV b2 n) (bools n side)
  mx : MaxP n m (frE es) (toE es) (cpE es) s t f
  sd : ∀ v, v < n → (side v = true ↔ Rch (RsS m (frE es) (toE es) (cpE es) f) s v)
def SolA (h : H) (n : Int) (m : Nat) (es : Nat → Ed) (s t k : Int) (r : Res) (h' : H) : Prop :=
  Ext h h' ∧ ((wrong13 n m es s t k ≠ 0 ∧ r = .ret (.tuple ⟨[.agg ⟨flZ⟩, .int .i64 0, .int .i64 (wrong13 n m es s t k)]⟩)) ∨
    (wrong13 n m es s t k = 0 ∧ ∃ (n' s' t' b1 b2 : Nat) (f : Nat → Int) (side : Nat → Bool), n = n' ∧ s = s' ∧ t = t' ∧ s' < n' ∧ t' < n' ∧ s' ≠ t' ∧ Gd n' m es ∧
      r = .ret (.tuple ⟨[.agg ⟨flV s t (slV b1 m) (slV b2 n')⟩, .int .i64 (OutF m (frE es) (toE es) f s'), .int .i64 0]⟩) ∧ SolR h h' n' m es s' t' b1 b2 f side))

end Go.Proofs.Ytdblngaacnpgmaa

namespace Go.Proofs.Ytdblngaacnpgmaa
open Go
set_option linter.unusedVariables false
set_option linter.unusedSimpArgs false

/-- The slice v shows vs. -/
def RS (h : H) (v : Value) (vs : List Value) : Prop := ∃ a c, v = .slice a vs.length c ∧ ∀ j x, vs[j]? = some x → ∃ ad, a = some ad ∧ hcell h (ad.add (j * 1)) = some x
section
variable {h h' : H} {v : Value} {vs : List Value}
theorem RS.ext (s : RS h v vs) (x : Ext h h') : RS h' v vs := by
  obtain ⟨a, c, e, k⟩ := s
  refine ⟨a, c, e, fun j y hj => ?_⟩
  obtain ⟨ad, e2, hc⟩ := k j y hj
  exact ⟨ad, e2, x.cell hc⟩
theorem RS.of_sl {b : Nat} (s : Sl h b v vs) : RS h v vs := by
  have g := fun j x (hj : vs[j]? = some x) => s.get hj
  obtain ⟨c, e, zs, h1, h2, h3⟩ := s
  exact ⟨_, c, h1, fun j x hj => ⟨_, rfl, g j x hj⟩⟩
theorem RS.of_S1 {own : Own} {i : Nat} (s : S1 own h i v vs) : RS h v vs := by
  rcases s with ⟨rfl, rfl⟩ | ⟨b, hb, s⟩
  · exact ⟨none, 0, rfl, fun j x hj => by simp at hj⟩
  · exact RS.of_sl s
theorem RS.len {l : Nat} {K : Option Addr → Nat → Nat → Prop} (s : RS h v vs) (hl : vs.length = l) (k : ∀ a c, K a l c) : slcP v K := by
  obtain ⟨a, c, rfl, _⟩ := s
  rw [hl]; exact k _ _
theorem RS.isS (s : RS h v vs) : ∃ a l c, v = .slice a l c := let ⟨a, c, e, _⟩ := s; ⟨a, _, c, e⟩
theorem RS.one (s : RS h v vs) : v.oneCell' = true := slc_one s.isS
theorem RS.at {j : Nat} {x : Value} {K : Addr → Prop} (s : RS h v vs) (hj : vs[j]? = some x) (k : ∀ a : Addr, hcell h a = some x → K a) : ixS v (j : Int) 1 K := by
  obtain ⟨a, c, rfl, g⟩ := s
  obtain ⟨ad, rfl, hc⟩ := g j x hj
  have hl := (List.getElem?_eq_some_iff.1 hj).1
  refine ⟨by omega, by omega, ?_⟩
  rw [Int.toNat_natCast]
  exact k _ hc
theorem RS.rd {j : Nat} {x : Int} {K : Int → Prop} (s : RS h v vs) (hj : vs[j]? = some (.int .i64 x)) (k : K x) : ixS v (j : Int) 1 fun a => ldI h a .i64 K := s.at hj fun a e => ⟨x, e, k⟩
theorem RS.rdI {j n : Nat} {f : Nat → Int} {K : Int → Prop} (s : RS h v (ints n f)) (hj : j < n) (k : K (f j)) : ixS v (j : Int) 1 fun a => ldI h a .i64 K := s.rd (ints_get hj) k
theorem RS.rdB {j n : Nat} {f : Nat → Bool} {K : Bool → Prop} (s : RS h v (bools n f)) (hj : j < n) (k : K (f j)) : ixS v (j : Int) 1 fun a => ldB h a K := s.at (va_get hj) fun a e => ⟨_, e, k⟩
theorem RS.src (s : RS h v vs) : ∃ a c, v = .slice a vs.length c ∧ srcP h a (vs.length * 1) vs := by
  obtain ⟨a, c, rfl, g⟩ := s
  refine ⟨a, c, rfl, by rw [Nat.mul_one], ?_⟩
  cases a with
  | none =>
    cases vs with
    | nil => rfl
    | cons x xs =>
      obtain ⟨ad, e, _⟩ := g 0 x rfl
      cases e
  | some ad =>
    intro j x hj
    obtain ⟨ad', e, hc⟩ := g j x hj
    cases e
    rwa [Nat.mul_one] at hc
end

/-- The edges in a slice. -/
def Gs (h : H) (v : Value) (m : Nat) (es : Nat → Ed) : Prop := ∃ a c, v = .slice a m c ∧ ∀ i, i < m → ∃ ad, a = some ad ∧ hcells h (ad.add (i * 4)) (es i).vs
section
variable {h h' : H} {v : Value} {w : List Value} {n : Int} {m : Nat} {es : Nat → Ed}
theorem GrA.gs (G : GrA h w n m es) : ∃ v, w = [.int .i64 n, v] ∧ Gs h v m es := by
  obtain ⟨a, c, e, k⟩ := G
  exact ⟨_, e, a, c, rfl, k⟩
theorem Gs.gr (s : Gs h v m es) (n : Int) : GrA h [.int .i64 n, v] n m es := by
  obtain ⟨a, c, rfl, k⟩ := s
  exact ⟨a, c, rfl, k⟩
theorem Gs.ext (s : Gs h v m es) (x : Ext h h') : Gs h' v m es := by
  obtain ⟨a, c, e, k⟩ := s
  refine ⟨a, c, e, fun i hi => ?_⟩
  obtain ⟨ad, e2, hc⟩ := k i hi
  exact ⟨ad, e2, fun j v hj => x.cell (hc j v hj)⟩
theorem Gs.len {K : Option Addr → Nat → Nat → Prop} (s : Gs h v m es) (k : ∀ a c, K a m c) : slcP v K := by
  obtain ⟨a, c, rfl, _⟩ := s
  exact k _ _
theorem Gs.isS (s : Gs h v m es) : ∃ a l c, v = .slice a l c := let ⟨a, c, e, _⟩ := s; ⟨a, _, c, e⟩
theorem Gs.at {i : Nat} {K : Addr → Prop} (s : Gs h v m es) (hi : i < m) (k : ∀ a : Addr, hcells h a (es i).vs → K a) : ixS v (i : Int) 4 K := by
  obtain ⟨a, c, rfl, g⟩ := s
  obtain ⟨ad, rfl, hc⟩ := g i hi
  refine ⟨by omega, by omega, ?_⟩
  rw [Int.toNat_natCast]
  exact k _ hc
theorem Gs.e4 {i : Nat} {K : List Value → Prop} (s : Gs h v m es) (hi : i < m) (k : K (es i).vs) : ixS v (i : Int) 4 fun a => ldN h a 4 K := s.at hi fun a hc => ⟨_, rfl, hc, k⟩
theorem Gs.f {i : Nat} {K : Int → Prop} (s : Gs h v m es) (hi : i < m) (k : K (es i).f) : ixS v (i : Int) 4 fun a => ldI h (a.add 0) .i64 K := s.at hi fun a hc => ⟨_, hc 0 _ rfl, k⟩
theorem Gs.t {i : Nat} {K : Int → Prop} (s : Gs h v m es) (hi : i < m) (k : K (es i).t) : ixS v (i : Int) 4 fun a => ldI h (a.add 1) .i64 K := s.at hi fun a hc => ⟨_, hc 1 _ rfl, k⟩
theorem Gs.c {i : Nat} {K : Int → Prop} (s : Gs h v m es) (hi : i < m) (k : K (es i).c) : ixS v (i : Int) 4 fun a => ldI h (a.add 2) .i64 K := s.at hi fun a hc => ⟨_, hc 2 _ rfl, k⟩
theorem Gs.k {i : Nat} {K : Int → Prop} (s : Gs h v m es) (hi : i < m) (k : K (es i).k) : ixS v (i : Int) 4 fun a => ldI h (a.add 3) .i64 K := s.at hi fun a hc => ⟨_, hc 3 _ rfl, k⟩
end

def edF (es : Nat → Ed) (i j : Nat) : Int := match j with
  | 0 => (es i).f
  | 1 => (es i).t
  | 2 => (es i).c
  | _ => (es i).k
theorem edF_vs (es : Nat → Ed) (i : Nat) : ints 4 (edF es i) = (es i).vs := rfl
theorem ints_add {a b : Nat} {f : Nat → Int} : ints (a + b) f = ints a f ++ ints b fun i => f (a + i) := by
  unfold ints
  rw [List.range_add, List.map_append, List.map_map]
  rfl
theorem recs_snoc {m k : Nat} {st : Nat → Nat → Int} : recs (m + 1) k st = recs m k st ++ ints k (st m) := by
  unfold recs
  rw [Nat.add_mul, Nat.one_mul, ints_add]
  congr 1
  refine ints_ext fun i hi => ?_
  rw [at_div hi, at_mod hi]
theorem recs_ext {m k : Nat} {st st' : Nat → Nat → Int} (h : ∀ i, i < m → ∀ j, st i j = st' i j) : recs m k st = recs m k st' := by
  unfold recs
  refine ints_ext fun i hi => ?_
  rcases Nat.eq_zero_or_pos k with e | e
  · subst e; omega
  · exact h _ (Nat.div_lt_of_lt_mul (by rw [Nat.mul_comm]; exact hi)) _
/-- The slice v holds the first m edges of es; its block is the i-th owner's. -/
def S4 (own : Own) (h : H) (i : Nat) (v : Value) (m : Nat) (es : Nat → Ed) : Prop :=
  (m = 0 ∧ v = .slice none 0 0) ∨ ∃ b c e zs, own b = i ∧ v = .slice (some (bk b)) m c ∧ h b = some (.cells ⟨recs m 4 (edF es) ++ zs⟩ e (0, 0)) ∧ m * 4 + zs.length = c * 4
section
variable {own own' : Own} {h h' : H} {i m : Nat} {v : Value} {es : Nat → Ed}
theorem S4.nil : S4 own h i (.slice none 0 0) 0 es := .inl ⟨rfl, rfl⟩
theorem S4.fm {M : List Nat} (s : S4 own h i v m es) (F : Fm M own h own' h') (hM : i ∉ M) : S4 own' h' i v m es := by
  rcases s with s | ⟨b, c, e, zs, hb, h1, h2, h3⟩
  · exact .inl s
  · exact .inr ⟨b, c, e, zs, (F.stay b _ h2).2.trans hb, h1, F.keep b _ h2 (by rw [hb]; exact hM), h3⟩
theorem S4.nw {b j : Nat} (s : S4 own h i v m es) (x : Ext h h') (hb : h b = none) : S4 (own1 own b j) h' i v m es := s.fm (M := []) (Fm.new x hb) (by simp)
theorem S4.isS (s : S4 own h i v m es) : ∃ a l c, v = .slice a l c := by
  rcases s with ⟨_, rfl⟩ | ⟨b, c, e, zs, hb, rfl, _⟩ <;> exact ⟨_, _, _, rfl⟩
theorem S4.congr {es' : Nat → Ed} (s : S4 own h i v m es) (he : ∀ j, j < m → es' j = es j) : S4 own h i v m es' := by
  rcases s with s | ⟨b, c, e, zs, hb, h1, h2, h3⟩
  · exact .inl s
  · refine .inr ⟨b, c, e, zs, hb, h1, ?_, h3⟩
    rw [recs_ext (st := edF es') (st' := edF es) fun j hj k => by unfold edF; rw [he j hj]]
    exact h2
theorem S4.gs (s : S4 own h i v m es) : Gs h v m es := by
  rcases s with ⟨rfl, rfl⟩ | ⟨b, c, e, zs, hb, rfl, h2, h3⟩
  · exact ⟨none, 0, rfl, fun i hi => by omega⟩
  · refine ⟨_, c, rfl, fun j hj => ⟨_, rfl, fun l x hl => ?_⟩⟩
    have hl4 : l < 4 := by have := (List.getElem?_eq_some_iff.1 hl).1; simpa using this
    rw [bk_add, bk_add2, hcell_at h2, List.getElem?_toArray, List.getElem?_append_left (by rw [recs_length]; exact at_lt hj hl4), recs_get hj hl4]
    rw [← edF_vs, ints_get hl4] at hl
    exact hl
theorem nextcap1_le {sc : Nat} : Builtin.nextslicecap (sc + 1) sc ≤ sc + sc / 4 + 600 := by
  unfold Builtin.nextslicecap
  split
  · omega
  · split
    · omega
    · simp only [Builtin.growBy]
      repeat' split
      all_goals omega
theorem S4.push {ed : Ed} {ex : Nat} {K : Nat → H → Value → H → Prop} {e : Nat} {z0 z1 z2 z3 : Value} (s : S4 own h i v m es) (hm : m ≤ 4398046511104)
    (k : ∀ bx hm p' own' h', h bx = none → Ext h hm → Fm [i] own h own' h' → S4 own' h' i p' (m + 1) (fun j => if j = m then ed else es j) → K bx hm p' h') :
    newP h (.cells ⟨ed.vs⟩ ex (0, 0)) fun bx hm => apP v (.slice (some (bk bx)) 1 1) hm 4 e 32 [z0, z1, z2, z3] (K bx hm) := by
  refine new_put ?_
  intro bx hm' hbx xm hx
  have hsrc : srcP hm' (some (bk bx)) (1 * 4) ed.vs := by
    refine ⟨rfl, fun j v hj => ?_⟩
    rw [bk_add, hcell_at hx, List.getElem?_toArray]
    exact hj
  have hzl : ∀ q, (zrep [z0, z1, z2, z3] q).length = q * 4 := by
    intro q
    unfold zrep
    rw [List.length_flatten]
    simp
  have hvs : recs (m + 1) 4 (edF fun j => if j = m then ed else es j) = recs m 4 (edF es) ++ ed.vs := by
    rw [recs_snoc]
    congr 1
    · refine recs_ext fun j hj l => ?_
      have e : (fun j => if j = m then ed else es j) j = es j := if_neg (by omega)
      unfold edF; rw [e]
    · rw [edF_vs, if_pos rfl]
  rcases s with ⟨rfl, rfl⟩ | ⟨b, c, eb, zs, hob, rfl, h2, h3⟩
  · refine ⟨ed.vs, hsrc, fun hle => by omega, fun hlt => ⟨?_, [], ⟨rfl, rfl⟩, fun cap hcap => ?_⟩⟩
    · have := nextcap_le hlt
      calc _ ≤ (2 * (0 + 1) + 192) * 32 := Nat.mul_le_mul_right _ this
        _ ≤ _ := by omega
    · refine new_put ?_
      intro b g hbn x1 e1
      rw [Nat.zero_add] at e1 hcap ⊢
      refine k bx hm' _ (own1 own b i) g hbx xm (Fm.new (xm.trans' x1) (xm.new hbn)) (.inr ⟨b, cap, e, zrep [z0, z1, z2, z3] (cap - 1), own1_at, rfl, by rw [e1, hvs]; rfl, ?_⟩)
      rw [hzl]; omega
  · have h2m := xm _ _ h2
    have hlen : (recs m 4 (edF es)).length = m * 4 := recs_length _ _ _
    refine ⟨ed.vs, hsrc, fun hle => ⟨fun _ => ?_, ed_one ed, ?_⟩, fun hlt => ⟨?_, recs m 4 (edF es), ⟨hlen, ?_⟩, fun cap hcap => ?_⟩⟩
    · rw [bk_add]
      refine ⟨_, _, h2m, rfl, ?_⟩
      simp only [List.size_toArray, List.length_append, hlen, List.length_cons, List.length_nil]
      omega
    · rw [bk_add]
      have e2 : hset hm' ⟨b, m * 4, none⟩ ed.vs b = some (.cells ⟨recs (m + 1) 4 (edF fun j => if j = m then ed else es j) ++ zs.drop 4⟩ eb (0, 0)) := by
        unfold hset
        rw [if_pos rfl, h2m]
        simp only [Option.map_some]
        rw [setR_list _ _ _ (by simp only [List.length_append, hlen, List.length_cons, List.length_nil]; omega), hvs]
        congr 3
        rw [List.take_append_of_le_length (by omega), List.take_of_length_le (by omega), List.drop_append, List.drop_of_length_le (by simp only [List.length_cons, List.length_nil]; omega)]
        simp [hlen]
      refine k bx hm' _ own _ hbx xm ((Fm.of_ext xm).trans (Fm.kp (b := b) ?_ hob ⟨_, e2⟩)) (.inr ⟨b, c, eb, zs.drop 4, hob, rfl, e2, by rw [List.length_drop]; omega⟩)
      intro j o hj hh
      unfold hset
      rw [if_neg hj]; exact hh
    · have hcm : c = m := by omega
      subst hcm
      calc _ ≤ (c + c / 4 + 600) * 32 := Nat.mul_le_mul_right _ nextcap1_le
        _ ≤ _ := by omega
    · intro j x hj
      rw [bk_add, hcell_at h2m, List.getElem?_toArray]
      have := (List.getElem?_eq_some_iff.1 hj).1
      rw [List.getElem?_append_left this]
      exact hj
    · refine new_put ?_
      intro b' g hbn x1 e1
      refine k bx hm' _ (own1 own b' i) g hbx xm (Fm.new (xm.trans' x1) (xm.new hbn)) (.inr ⟨b', cap, e, zrep [z0, z1, z2, z3] (cap - (m + 1)), own1_at, rfl, by rw [e1, hvs], ?_⟩)
      rw [hzl]; omega
end

end Go.Proofs.Ytdblngaacnpgmaa

namespace Go.Proofs.Ytdblngaacnpgmaa
open Go
set_option linter.unusedVariables false
set_option linter.unusedSimpArgs false

/-- A graph whose ends are nodes; somewhat larger than Check allows. -/
structure Gw (n m : Nat) (es : Nat → Ed) : Prop where
  n1 : n ≤ 2048
  m1 : m ≤ 16384
  fr : ∀ i, i < m → (es i).f = (frE es i : Nat) ∧ frE es i < n
  to : ∀ i, i < m → (es i).t = (toE es i : Nat) ∧ toE es i < n
  c : ∀ i, i < m → 0 ≤ (es i).c ∧ (es i).c ≤ 1048576
  k : ∀ i, i < m → -1048576 ≤ (es i).k ∧ (es i).k ≤ 1048576
theorem Gd.w {n m : Nat} {es : Nat → Ed} (g : Gd n m es) : Gw n m es :=
  ⟨by have := g.n1; omega, by have := g.m1; omega, fun i hi => g.fr hi, fun i hi => g.to hi, g.c, g.k⟩
theorem Gw.ends {n m : Nat} {es : Nat → Ed} (g : Gw n m es) : ∀ i, i < m → frE es i < n ∧ toE es i < n := fun i hi => ⟨(g.fr i hi).2, (g.to i hi).2⟩
end Go.Proofs.Ytdblngaacnpgmaa

namespace Go.Proofs.Ytdblngaacnpgmaa
open Go
set_option linter.unusedVariables false
set_option linter.unusedSimpArgs false

/-- append(p, q...): q is only read. -/
theorem S1.catR {own : Own} {h : H} {i : Nat} {p q z : Value} {vs ws : List Value} {K : Value → H → Prop} {e bytes : Nat} (s : S1 own h i p vs) (s2 : RS h q ws)
    (one : ∀ v ∈ ws, v.oneCell' = true) (hb : bytes ≤ 8) (hl : vs.length + ws.length < 1000000)
    (k : ∀ p' own' h', Fm [i] own h own' h' → S1 own' h' i p' (vs ++ ws) → K p' h') :
    apP p q h 1 e bytes [z] K := by
  have hzl : ∀ m, (zrep [z] m).length = m := by intro m; simp [zrep]
  obtain ⟨qa, qc, rfl, hsrc⟩ := s2.src
  rcases s with ⟨rfl, rfl⟩ | ⟨b, hob, c, eb, zs, rfl, h2, h3⟩
  · refine ⟨ws, hsrc, fun hle => ?_, fun hlt => ⟨?_, [], ⟨rfl, rfl⟩, fun cap hcap => ?_⟩⟩
    · have : ws = [] := List.length_eq_zero_iff.1 (by omega)
      subst this
      exact ⟨rfl, k _ own h Fm.refl (.inl ⟨rfl, rfl⟩)⟩
    · have := nextcap_le hlt
      calc _ ≤ (2 * (0 + ws.length) + 192) * bytes := Nat.mul_le_mul_right _ this
        _ ≤ (2 * (0 + ws.length) + 192) * 8 := Nat.mul_le_mul_left _ hb
        _ ≤ _ := by simp at hl; omega
    · refine new_put ?_
      intro b g hbn x e1
      rw [Nat.zero_add] at e1 hcap ⊢
      refine k _ (own1 own b i) g (Fm.new x hbn) (.inr ⟨b, own1_at, cap, e, zrep [z] (cap - ws.length), rfl, by rw [e1], ?_⟩)
      rw [hzl]; simp; omega
  · refine ⟨ws, hsrc, fun hle => ⟨fun _ => ?_, one, ?_⟩, fun hlt => ⟨?_, vs, ⟨by rw [Nat.mul_one], ?_⟩, fun cap hcap => ?_⟩⟩
    · rw [bk_add]
      refine ⟨_, _, h2, rfl, ?_⟩
      simp only [List.size_toArray, List.length_append]
      omega
    · rw [bk_add]
      have e2 : hset h ⟨b, vs.length * 1, none⟩ ws b = some (.cells ⟨vs ++ ws ++ zs.drop ws.length⟩ eb (0, 0)) := by
        unfold hset
        rw [if_pos rfl, h2]
        simp only [Option.map_some, Nat.mul_one]
        rw [setR_list _ _ _ (by simp; omega)]
        simp [List.take_append, List.drop_append]
      refine k _ own _ (Fm.kp (b := b) ?_ hob ⟨_, e2⟩) (.inr ⟨b, hob, c, eb, zs.drop ws.length, by simp, e2, by simp; omega⟩)
      intro j o hj hh
      unfold hset
      rw [if_neg hj]; exact hh
    · have := nextcap_le hlt
      calc _ ≤ (2 * (vs.length + ws.length) + 192) * bytes := Nat.mul_le_mul_right _ this
        _ ≤ (2 * (vs.length + ws.length) + 192) * 8 := Nat.mul_le_mul_left _ hb
        _ ≤ _ := by omega
    · intro j v hj
      rw [bk_add, hcell_at h2, List.getElem?_toArray]
      have := (List.getElem?_eq_some_iff.1 hj).1
      rw [List.getElem?_append_left this]
      exact hj
    · refine new_put ?_
      intro b' g hbn x e1
      refine k _ (own1 own b' i) g (Fm.new x hbn) (.inr ⟨b', own1_at, cap, e, zrep [z] (cap - (vs.length + ws.length)), by simp, by rw [e1], ?_⟩)
      rw [hzl]; simp; omega

section
variable {h : H} {w : List Value} {n m : Nat} {es : Nat → Ed} {on : Value} {f : Nat → Int}
/-- While it is looked for. -/
structure RcI (n M : Nat) (es : Nat → Ed) (s : Nat) (via : Nat → Int) (rank : Nat → Nat) : Prop where
  src : via s = -1
  cs : ∀ v, v < n → via v = -2 ∨ (v = s ∧ via v = -1) ∨ ∃ a : Nat, a < M ∧ via v = a ∧ toE es a = v ∧ 0 < (es a).c ∧ via (frE es a) ≠ -2 ∧ rank (frE es a) < rank v
  rk : ∀ v, v < n → via v ≠ -2 → (rank v : Int) < n - cntH n via (-2)
theorem RcI.next {M s : Nat} {via : Nat → Int} {rank : Nat → Nat} (L : RcI n M es s via rank) (hE : ∀ i, i < M → frE es i < n ∧ toE es i < n) {i : Nat} (hi : i < M) (hc : 0 < (es i).c)
    (hf : via (frE es i) ≠ -2) (ht : via (toE es i) = -2) : ∃ rank', RcI n M es s (upd via (toE es i) i) rank' ∧ cntH n (upd via (toE es i) i) (-2) = cntH n via (-2) - 1 := by
  obtain ⟨hfn, htn⟩ := hE i hi
  have hcnt : cntH n (upd via (toE es i) i) (-2) = cntH n via (-2) - 1 := by
    rw [cntH_upd htn, ht, if_pos rfl, if_neg (by omega)]; omega
  have hb := cntH_bd (n := n) (ht := via) (k := -2)
  have hb2 := cntH_bd (n := n) (ht := upd via (toE es i) i) (k := -2)
  have keep : ∀ v, via v ≠ -2 → v ≠ toE es i := by rintro v hv rfl; exact hv ht
  refine ⟨fun v => if v = toE es i then ((n : Int) - cntH n via (-2)).toNat else rank v, ⟨?_, ?_, ?_⟩, hcnt⟩
  · rw [upd_ne (keep s (by rw [L.src]; omega))]; exact L.src
  · intro v hv
    by_cases e : v = toE es i
    · subst e
      refine .inr (.inr ⟨i, hi, upd_at, rfl, hc, by rw [upd_ne (keep _ hf)]; exact hf, ?_⟩)
      rw [if_pos rfl, if_neg (keep _ hf)]
      have := L.rk _ hfn hf
      omega
    · rw [upd_ne e]
      rcases L.cs v hv with h | h | ⟨a, h1, h2, h3, h4, h5, h6⟩
      · exact .inl h
      · exact .inr (.inl h)
      · exact .inr (.inr ⟨a, h1, h2, h3, h4, by rw [upd_ne (keep _ h5)]; exact h5, by rw [if_neg (keep _ h5), if_neg e]; exact h6⟩)
  · intro v hv h
    rw [hcnt]
    by_cases e : v = toE es i
    · subst e; rw [if_pos rfl]; omega
    · rw [if_neg e]
      rw [upd_ne e] at h
      have := L.rk v hv h
      omega

end

end Go.Proofs.Ytdblngaacnpgmaa

namespace Go.Proofs.Ytdblngaacnpgmaa
open Go
set_option linter.unusedVariables false
set_option linter.unusedSimpArgs false

/-- A way back from a node, each arc from lower rank. -/
inductive ViaP (tl hd : Nat → Nat) (rk : Nat → Nat) (s : Nat) : Nat → List Nat → Prop
  | nil : ViaP tl hd rk s s []
  | cons {a : Nat} {l : List Nat} : rk (tl a) < rk (hd a) → ViaP tl hd rk s (tl a) l → ViaP tl hd rk s (hd a) (a :: l)
theorem ViaP.tl_lt {tl hd rk : Nat → Nat} {s v : Nat} {l : List Nat} (p : ViaP tl hd rk s v l) : ∀ a ∈ l, rk (tl a) < rk (hd a) := by
  induction p with
  | nil => intro a ha; cases ha
  | cons h p ih =>
    intro b hb
    rcases List.mem_cons.1 hb with rfl | hb
    · exact h
    · exact ih b hb
theorem ViaP.snoc {tl hd rk : Nat → Nat} {s t v : Nat} {l : List Nat} (p : ∀ l2, ViaP tl hd rk s v l2 → ViaP tl hd rk s t (l ++ l2)) {a : Nat} (hv : hd a = v) (h : rk (tl a) < rk (hd a)) :
    ∀ l2, ViaP tl hd rk s (tl a) l2 → ViaP tl hd rk s t ((l ++ [a]) ++ l2) := by
  intro l2 q
  rw [List.append_assoc]
  refine p _ ?_
  subst hv
  exact .cons h q
section
variable {h : H} {w : List Value} {n M m : Nat} {es : Nat → Ed} {on list : Value} {f : Nat → Int} {l : List Nat}
/-- A slice's length is not above its capacity. -/
def capV (v : Value) : Prop := ∃ a l c, v = .slice a l c ∧ l ≤ c
theorem S1.cap {own : Own} {h : H} {i : Nat} {v : Value} {vs : List Value} (s : S1 own h i v vs) : capV v := by
  rcases s with ⟨_, rfl⟩ | ⟨b, _, c, e, zs, rfl, _, h3⟩
  · exact ⟨_, _, _, rfl, Nat.le_refl _⟩
  · exact ⟨_, _, _, rfl, by omega⟩
end

end Go.Proofs.Ytdblngaacnpgmaa

namespace Go.Proofs.Ytdblngaacnpgmaa
open Go
set_option linter.unusedVariables false
set_option linter.unusedSimpArgs false

section
variable {h : H} {w : List Value} {n : Int} {m : Nat} {es : Nat → Ed}

theorem S4.at {own : Own} {h : H} {i m : Nat} {v : Value} {es : Nat → Ed} {j : Nat} {K : Addr → Prop} (s : S4 own h i v m es) (hj : j < m) (k : ∀ b, K ((bk b).add (j * 4))) : ixS v (j : Int) 4 K := by
  rcases s with ⟨rfl, _⟩ | ⟨b, c, e, zs, hb, rfl, h2, h3⟩
  · omega
  · exact nx hj (k b)
theorem Copy_R (G : GrA h w n m es) (hm : m ≤ 4398046511104) : T Try.prog F.compassref03_Copy [.agg ⟨w⟩] h fun r h' => ∃ v own, r = .ret (.agg ⟨[.int .i64 n, v]⟩) ∧ Bs h own h' ∧ S4 own h' 1 v m es := by
  refine E_compassref03_Copy ?_
  unfold B_compassref03_Copy
  obtain ⟨gv, rfl, Gv⟩ := G.gs
  refine new_bl ?_
  intro b1 q1 hb1 x1 B
  have bs : Bs h (own1 (fun _ => 0) b1 9) q1 := Bs.start.new x1 hb1
  have k9 : B1 (own1 (fun _ => 0) b1 9) q1 9 b1 _ := B1.new B
  generalize own1 (fun _ => 0) b1 9 = own at *
  refine new_bl ?_
  intro b3 q3 hb3 x3 B3
  have bs := bs.nw (j := 8) x3 hb3
  have k9 := k9.nw (j := 8) x3 hb3
  have k8 : B1 (own1 own b3 8) q3 8 b3 _ := B1.new B3
  generalize own1 own b3 8 = own at *
  refine ⟨_, k9.ld rfl, ?_⟩
  refine new_bl_st rfl rfl (by simp [Value.oneCell']) ?_
  intro b6 q8 hb6 x8 B6
  have bs := bs.nw (j := 4) x8 hb6
  have k9 := k9.nw (j := 4) x8 hb6
  have k8 := k8.nw (j := 4) x8 hb6
  have k4 : B1 (own1 own b6 4) q8 4 b6 [.int .i64 n, .slice none 0 0] := B1.new B6
  generalize own1 own b6 4 = own at *
  let I : (Int × Unit) → H → Nat → Prop := fun p q k => ∃ (j : Nat) (own : Own) (v : Value), p.1 = j ∧ j ≤ m ∧ k = m - j ∧ Bs h own q ∧ B1 own q 4 b6 [.int .i64 n, v] ∧ S4 own q 1 v j es ∧ B1 own q 9 b1 [.int .i64 n, gv] ∧ B1 own q 8 b3 [.int .i64 0, .slice none 0 0]
  refine ⟨fun p q => ∃ k, I p q k, rk I, rk_wf I, ⟨_, 0, _, _, rfl, by omega, rfl, bs, k4, S4.nil, k9, k8⟩, ?_⟩
  clear bs k4 k9 k8 B B3 B6
  intro p q hI
  obtain ⟨j, own, v, e1, hj, hk, bs, k4, k1, k9, k8⟩ := mu_spec hI
  generalize hkk : mu I ((p, ()), q) = km at *
  change p = (j : Int) at e1
  subst e1
  have hlt : j < m → m - (j + 1) < mu I (((j : Int), ()), q) := fun h => by rw [hkk, hk]; omega
  clear hI
  have Gz := Gv.ext bs.ext
  refine ⟨_, k9.ld rfl, Gz.len fun _ _ => ?_⟩
  refine ifP_of (fun h1 => ?_) (fun h1 => ?_)
  · have hjm : j < m := by have := of_decide_eq_true h1; omega
    refine ⟨_, k4.ld rfl, _, k9.ld rfl, Gz.e4 hjm ⟨rfl, ?_⟩⟩
    refine S4.push (ed := es j) k1 (by omega) ?_
    intro _ _ v2 own2 q24 _ _ F k1
    have bs := bs.fm F (by simp <;> omega)
    have k4 := k4.fm F (by simp <;> omega)
    have k9 := k9.fm F (by simp <;> omega)
    have k8 := k8.fm F (by simp <;> omega)
    refine oneP_slc k1.isS (k4.st (by simp) ?_)
    intro q25 F2 k4
    simp only [List.set] at k4
    have bs := bs.fm F2 (by simp <;> omega)
    have k1 := k1.fm F2 (by simp <;> omega)
    have k9 := k9.fm F2 (by simp <;> omega)
    have k8 := k8.fm F2 (by simp <;> omega)
    rw [i64_inc (by omega)]
    refine mu_next (I := I) (k := m - (j + 1)) ⟨j + 1, own2, v2, rfl, hjm, rfl, bs, k4, S4.congr k1 fun l hl => ?_, k9, k8⟩ (hlt hjm)
    by_cases e : l = j
    · subst e; rw [if_pos rfl]
    · rw [if_neg e]
  · have : j = m := by have := of_decide_eq_false h1; omega
    subst this
    refine k4.ldN rfl (k8.stN rfl rfl (by simp [Value.oneCell']; exact slc_one k1.isS) ?_)
    intro q27 F k8
    have bs := bs.fm F (by simp <;> omega)
    have k1 := k1.fm F (by simp <;> omega)
    exact k8.ldN rfl ⟨v, own, rfl, bs, k1⟩

end

end Go.Proofs.Ytdblngaacnpgmaa

namespace Go.Proofs.Ytdblngaacnpgmaa
open Go
set_option linter.unusedVariables false
set_option linter.unusedSimpArgs false

theorem SolR.one {h h' : H} {n m : Nat} {es : Nat → Ed} {s t b1 b2 : Nat} {f : Nat → Int} {sd : Nat → Bool} : ∀ v ∈ flV s t (slV b1 m) (slV b2 n), v.oneCell' = true := by
  simp [Value.oneCell']

end Go.Proofs.Ytdblngaacnpgmaa

namespace Go.Proofs.Ytdblngaacnpgmaa
open Go
open Classical
set_option linter.unusedVariables false
set_option linter.unusedSimpArgs false

section
variable {n m : Nat} {fr to : Nat → Nat} {cap f g : Nat → Int} {s t : Nat}
theorem FlowP.sink (F : FlowP n m fr to cap s t f) (hn : ∀ i, i < m → fr i < n ∧ to i < n) (hs : s < n) (ht : t < n) (hst : s ≠ t) : OutF m fr to f t = - OutF m fr to f s := by
  have tot := out_all (f := f) hn
  have : sumN n (fun v => OutF m fr to f v) = OutF m fr to f s + OutF m fr to f t := by
    have e : sumN n (fun v => OutF m fr to f v) = sumN n fun v => (if s = v then OutF m fr to f s else 0) + (if t = v then OutF m fr to f t else 0) := sumN_congr fun v hv => by
      by_cases e1 : s = v
      · subst e1; rw [if_pos rfl, if_neg (fun h => hst h.symm)]; omega
      · by_cases e2 : t = v
        · subst e2; rw [if_neg hst, if_pos rfl]; omega
        · rw [if_neg e1, if_neg e2, F.cons v hv (fun h => e1 h.symm) (fun h => e2 h.symm)]; rfl
    rw [e, sumN_add, sumN_pt, sumN_pt, if_pos hs, if_pos ht]
  omega
theorem cut_upd {C : Nat → Prop} {k : Nat} {x : Int} (hk : k < m) : cutC m fr to (upd cap k x) C = cutC m fr to cap C + (if C (fr k) ∧ ¬ C (to k) then x - cap k else 0) := by
  unfold cutC
  have e : (fun i => if C (fr i) ∧ ¬ C (to i) then upd cap k x i else 0) = upd (fun i => if C (fr i) ∧ ¬ C (to i) then cap i else 0) k (if C (fr k) ∧ ¬ C (to k) then x else 0) := by
    funext i
    by_cases e : i = k
    · subst e; rw [upd_at, upd_at]
    · rw [upd_ne e, upd_ne e]
  rw [e, sumN_upd hk]
  split <;> omega
theorem MaxP.less {fl : Nat → Int} {k : Nat} (F : MaxP n m fr to cap s t f) (L : MaxP n m fr to (upd cap k 0) s t fl) (hn : ∀ i, i < m → fr i < n ∧ to i < n) (hs : s < n) (hk : k < m) (hc : 0 ≤ cap k) :
    OutF m fr to fl s ≤ OutF m fr to f s ∧ OutF m fr to f s - OutF m fr to fl s ≤ cap k := by
  have c1 := F.cut hn hs
  have c2 := L.cut hn hs
  have l1 := L.fl.le_cut hn hs (C := Rch (RsS m fr to cap f) s) .refl F.nr
  have l2 := F.fl.le_cut hn hs (C := Rch (RsS m fr to (upd cap k 0) fl) s) .refl L.nr
  rw [cut_upd hk] at l1 c2
  constructor
  · split at l1 <;> omega
  · split at c2 <;> omega
theorem MaxP.more {fm : Nat → Int} {k : Nat} (F : MaxP n m fr to cap s t f) (M : MaxP n m fr to (upd cap k (cap k + 1)) s t fm) (hn : ∀ i, i < m → fr i < n ∧ to i < n) (hs : s < n) (hk : k < m) :
    (OutF m fr to fm s = OutF m fr to f s + 1 ∧ Rch (RsS m fr to cap f) s (fr k) ∧ Rch (RsS m fr to cap f) (to k) t) ∨
    (OutF m fr to fm s = OutF m fr to f s ∧ ¬ (Rch (RsS m fr to cap f) s (fr k) ∧ Rch (RsS m fr to cap f) (to k) t)) := by
  have c1 := F.cut hn hs
  have c2 := M.cut hn hs
  have l1 := M.fl.le_cut hn hs (C := Rch (RsS m fr to cap f) s) .refl F.nr
  have l2 := F.fl.le_cut hn hs (C := Rch (RsS m fr to (upd cap k (cap k + 1)) fm) s) .refl M.nr
  rw [cut_upd hk] at l1 c2
  by_cases hg : Rch (RsS m fr to cap f) s (fr k) ∧ Rch (RsS m fr to cap f) (to k) t
  · refine .inl ⟨?_, hg⟩
    have le1 : OutF m fr to fm s ≤ OutF m fr to f s + 1 := by split at l1 <;> omega
    apply Classical.byContradiction
    intro hne
    have hle : cutC m fr to cap (Rch (RsS m fr to (upd cap k (cap k + 1)) fm) s) ≤ OutF m fr to f s := by split at c2 <;> omega
    have h1 := MaxP.sub F.fl hn hs (C := Rch (RsS m fr to (upd cap k (cap k + 1)) fm) s) .refl M.nr hle hg.1
    have h2 : ¬ Rch (RsS m fr to (upd cap k (cap k + 1)) fm) s (to k) := by
      intro h2
      refine M.nr (hg.2.closed (C := Rch (RsS m fr to (upd cap k (cap k + 1)) fm) s) h2 ?_)
      rintro u w hu ⟨i, hi, ⟨rfl, rfl, k3⟩ | ⟨rfl, rfl, k3⟩⟩
      · apply Classical.byContradiction
        intro hw
        have := (F.fl.tight hn hs .refl M.nr hle i hi).1 hu hw
        omega
      · apply Classical.byContradiction
        intro hw
        have := (F.fl.tight hn hs .refl M.nr hle i hi).2 hw hu
        omega
    rw [if_pos ⟨h1, h2⟩] at c2
    omega
  · refine .inr ⟨?_, hg⟩
    have ge : OutF m fr to f s ≤ OutF m fr to fm s := by split at c2 <;> omega
    by_cases h1 : Rch (RsS m fr to cap f) s (fr k)
    · have h2 : ¬ Rch (RsS m fr to cap f) (to k) t := fun h => hg ⟨h1, h⟩
      have e := F.fl.tight' hn hs (C := fun u => ¬ Rch (RsS m fr to cap f) u t) F.nr (fun h => h .refl) (fun u w hu r h => hu (h.head r))
      have l := M.fl.le_cut hn hs (C := fun u => ¬ Rch (RsS m fr to cap f) u t) F.nr (fun h => h .refl)
      rw [cut_upd hk, if_neg (fun h => h.2 h2)] at l
      omega
    · rw [if_neg (fun h => h1 h.1)] at l1
      omega
end

end Go.Proofs.Ytdblngaacnpgmaa

namespace Go.Proofs.Ytdblngaacnpgmaa
open Go
set_option linter.unusedVariables false
set_option linter.unusedSimpArgs false

theorem SolA.ok {h h' : H} {n s t m : Nat} {k : Int} {es : Nat → Ed} {r : Res} (A : SolA h n m es s t k r h') (hw : wrong13 n m es s t k = 0) :
    ∃ b1 b2 f sd, r = .ret (.tuple ⟨[.agg ⟨flV s t (slV b1 m) (slV b2 n)⟩, .int .i64 (OutF m (frE es) (toE es) f s), .int .i64 0]⟩) ∧ SolR h h' n m es s t b1 b2 f sd ∧ Ext h h' := by
  rcases A with ⟨x, ⟨h, _⟩ | ⟨_, n', s', t', b1, b2, f, sd, e1, e2, e3, _, _, _, _, rfl, S⟩⟩
  · exact absurd hw h
  · have : n' = n := by omega
    subst this
    have : s' = s := by omega
    subst this
    have : t' = t := by omega
    subst this
    exact ⟨b1, b2, f, sd, rfl, S, x⟩
section
variable {h : H} {w : List Value}
theorem Own.join {h0 h1 h2 : H} {o1 o2 : Own} (B1_ : Bs h0 o1 h1) (B2_ : Bs h1 o2 h2) : ∃ o : Own, Bs h0 o h2 ∧ Fm [] o1 h1 o h2 ∧ ∀ b, o2 b ≠ 0 → o b = 10 + o2 b := by
  classical
  refine ⟨fun b => if (∃ x, h1 b = some x) then o1 b else 10 + o2 b, ⟨B1_.ext.trans' B2_.ext, fun b x e => ?_⟩, ⟨fun b x e _ => B2_.ext b x e, fun b x e => ⟨⟨x, B2_.ext b x e⟩, if_pos ⟨x, e⟩⟩⟩, fun b hb => if_neg ?_⟩
  · rw [if_pos ⟨x, B1_.ext b x e⟩]; exact B1_.old b x e
  · rintro ⟨x, e⟩; exact hb (B2_.old b x e)
theorem S4.rel {own own' : Own} {h : H} {i j m : Nat} {v : Value} {es : Nat → Ed} (s : S4 own h i v m es) (hr : ∀ b, own b = i → own' b = j) : S4 own' h j v m es := by
  rcases s with s | ⟨b, c, e, zs, hb, h1, h2, h3⟩
  · exact .inl s
  · exact .inr ⟨b, c, e, zs, hr b hb, h1, h2, h3⟩
end

end Go.Proofs.Ytdblngaacnpgmaa

namespace Go.Proofs.Ytdblngaacnpgmaa
open Go
set_option linter.unusedVariables false
set_option linter.unusedSimpArgs false

/-- A region whose first operation is recover; the rest is walked as any region. -/
theorem wpS_region_recover {P : Program} {id : Nat} {ops : Array Oper} {Q : Exit → Act → List Frame → World → Prop} {a : Act} {cs cs' : List Frame} {w : World} {o : Oper} {rest : List Nat} {v : Value}
    (ho : ops[0]? = some o) (hl : List.range ops.size = 0 :: rest) (hw : Region.wanted o (yielded ops a.tmps) = true) (hrun : (execOp a.eval o).run P w = .ok .recover w)
    (hrec : recoverD cs = some (v, cs') ∨ (recoverD cs = none ∧ v = .nilIface ∧ cs' = cs)) (h : wpOps P ops (fun e a' w' => Q e a' cs' w') rest (a.put o.dst v) w) :
    (Code.region id ops false).wpS P Q a cs w := by
  intro b k hb hro
  obtain ⟨e, a', w', hq, harr⟩ := wp_ops rest _ w h b k cs'
  have hg := stepG_op (P := P) (b := b) (k := k) (cs := cs) (w := w) (rest := rest) ho hw
  have hfin : ∀ v, (b.at a (.inRegion ops (0 :: rest) :: k)).finish v = b.at (a.put o.dst v) (.inRegion ops rest :: k) := by
    intro v; rw [Frame.finish_at, ho]; rfl
  have hk : (b.at a (.inRegion ops (0 :: rest) :: k)).kind = .deferred := hb
  have htr := tryRecover_deferred hk cs
  have st : step P (lone (b.at a (.inRegion ops (0 :: rest) :: k)) cs w) = .next (lone (b.at (a.put o.dst v) (.inRegion ops rest :: k)) cs' w) := by
    refine step_lone_go ?_
    rw [hg, ← hfin]
    simp only [Frame.at] at htr ⊢
    rcases hrec with hrec | ⟨hrec, rfl, rfl⟩
    · simp [stepG.apply, hrun, htr, hrec]
    · simp [stepG.apply, hrun, htr, hrec]
  refine ⟨e, a', cs', w', hq, .of_steps (.head step_region ?_) harr⟩
  rw [hl]
  exact .one st

end Go.Proofs.Ytdblngaacnpgmaa

namespace Go.Proofs.Ytdblngaacnpgmaa
open Go
set_option linter.unusedVariables false
set_option linter.unusedSimpArgs false
set_option maxRecDepth 100000

def firstOps : Code → Array Oper
  | .seq (.region _ ops _) _ => ops
  | _ => #[]
def restOf : Code → Code
  | .seq _ y => y
  | _ => .skip
def opAt (ops : Array Oper) (i : Nat) : Oper := match ops[i]? with
  | some o => o
  | none => default
theorem wp_first {P : Program} {ops : Array Oper} {Q : Exit → Act → World → Prop} {a : Act} {w : World} {i : Nat} {rest : List Nat} {o : Oper} (ho : ops[i]? = some o) (hw : Region.wanted o (yielded ops a.tmps) = true)
    (h : o.wp P a w (wpOps P ops Q rest) Q) : wpOps P ops Q (i :: rest) a w := by
  show (match ops[i]? with
    | none => wpOps P ops Q rest a w
    | some o => if Region.wanted o (yielded ops a.tmps) then o.wp P a w (wpOps P ops Q rest) Q ∨ (o.asks P a w ∧ LetsOut Q) else wpOps P ops Q rest (a.put o.dst undef) w)
  rw [ho]
  dsimp only
  rw [if_pos hw]
  exact .inl h

end Go.Proofs.Ytdblngaacnpgmaa

namespace Go.Proofs.Ytdblngaacnpgmaa
open Go
set_option linter.unusedVariables false
set_option linter.unusedSimpArgs false

section
variable {h : H} {w : List Value} {m : Nat} {es : Nat → Ed}

theorem ldI0 {b : Nat} {K : Int → Prop} (H0 : ldI h ((bk b).add 0) .i64 K) : ldI h (bk b) .i64 K := by rwa [add_zero'] at H0
end

end Go.Proofs.Ytdblngaacnpgmaa

namespace Go.Proofs.Ytdblngaacnpgmaa
open Go
set_option linter.unusedVariables false
set_option linter.unusedSimpArgs false
set_option maxRecDepth 100000

theorem boolP_mk {b : Bool} {K : Bool → Prop} (k : K b) : boolP (.bool b) K := k
theorem eqFields_refl {P : Program} {d : Nat} {xs : Array Value} {w : World} : ∀ {fs : List Field}, (∀ f ∈ fs, ∃ k k' v, P.underlying f.type = some (.int k') ∧ (part f.type xs f.offset).run P w = .ok (.int k v) w) →
    (Op.eqFields (d + 1) xs xs fs).run P w = .ok true w
  | [], _ => by simp [Op.eqFields]
  | f :: fs, H => by
    obtain ⟨k, k', v, h1, h2⟩ := H f (by simp)
    have ih := eqFields_refl (d := d) (fs := fs) fun f hf => H f (by simp [hf])
    unfold Op.eqFields
    split
    · rw [Sem.run_bind, h2, Result.andThen_ok, Sem.run_bind, h2, Result.andThen_ok, Sem.run_bind, run_equalIn_int w d _ k k' v v h1, Result.andThen_ok]
      simp [ih]
    · exact ih
noncomputable def fld (i : Nat) : Field := (Try.prog.fieldsOf 41).toList[i]!
theorem fld_all : (Try.prog.fieldsOf 41).toList = [fld 0, fld 1, fld 2, fld 3] := by kernel_rfl
theorem ed_same (e : Ed) (x y : Operand) (w : World) : (do eqGuard .neq 41 x y (.agg ⟨e.vs⟩) (.agg ⟨e.vs⟩); binOp .neq 41 (.agg ⟨e.vs⟩) (.agg ⟨e.vs⟩)).run Try.prog w = .ok (.bool false) w := by
  rw [Sem.run_bind, run_eqGuard_agg w _ _ _ _ _ _ (by kernel_rfl), Result.andThen_ok, run_neq_struct, run_equalIn_agg w 9999 41 _ _ (by kernel_rfl) (by kernel_rfl), fld_all,
    eqFields_refl (d := 9998)]
  · rfl
  · intro f hf
    simp only [List.mem_cons, List.mem_nil_iff, or_false] at hf
    rcases hf with rfl | rfl | rfl | rfl
    · exact ⟨.i64, .i64, e.f, by kernel_rfl, by kernel_rfl⟩
    · exact ⟨.i64, .i64, e.t, by kernel_rfl, by kernel_rfl⟩
    · exact ⟨.i64, .i64, e.c, by kernel_rfl, by kernel_rfl⟩
    · exact ⟨.i64, .i64, e.k, by kernel_rfl, by kernel_rfl⟩

section
variable {h : H} {w w2 : List Value} {n : Int} {m : Nat} {es : Nat → Ed}
theorem Same_R (G : GrA h w n m es) (G2 : GrA h w2 n m es) (hm : m ≤ 4398046511104) :
    T Try.prog F.compassref03_Same [.agg ⟨w⟩, .agg ⟨w2⟩] h fun r h' => r = .ret (.bool true) ∧ Ext h h' := by
  refine E_compassref03_Same ?_
  unfold B_compassref03_Same
  obtain ⟨gv, rfl, Gv⟩ := G.gs
  obtain ⟨gv2, rfl, Gv2⟩ := G2.gs
  refine new_bl ?_
  intro b1 q2 hb1 x1 B1_
  refine new_bl ?_
  intro b3 q4 hb3 x3 B3
  have B1_ := B1_.ext x3
  have xh := x1.trans' x3
  have Gv := Gv.ext xh
  have Gv2 := Gv2.ext xh
  refine ⟨_, B1_.ld rfl, _, B3.ld rfl, ifP_of (fun h => by simp at h) (fun _ => ?_)⟩
  refine ⟨_, B1_.ld rfl, Gv.len fun _ _ => ⟨_, B3.ld rfl, Gv2.len fun _ _ => ifP_of (fun h => by simp at h) (fun _ => ?_)⟩⟩
  let I : (Int × Unit) → H → Nat → Prop := fun p q z => ∃ j : Nat, p.1 = j ∧ j ≤ m ∧ z = m - j ∧ q4 = q
  refine ⟨fun p q => ∃ k, I p q k, rk I, rk_wf I, ⟨_, 0, rfl, by omega, rfl, rfl⟩, ?_⟩
  intro p q hI
  obtain ⟨j, e1, hj, hk2, e2⟩ := mu_spec hI
  generalize hkk : mu I ((p, ()), q) = km at *
  change p = (j : Int) at e1
  subst e1 e2
  have hlt : j < m → m - (j + 1) < mu I (((j : Int), ()), q4) := fun h => by rw [hkk, hk2]; omega
  clear hI
  refine ⟨_, B1_.ld rfl, Gv.len fun _ _ => ifP_of (fun h1 => ?_) (fun _ => ⟨rfl, xh⟩)⟩
  have hjm : j < m := by have := of_decide_eq_true h1; omega
  refine ⟨_, B1_.ld rfl, Gv.e4 hjm ⟨_, B3.ld rfl, Gv2.e4 hjm ?_⟩⟩
  refine ⟨.bool false, fun w _ => ed_same (es j) _ _ w, ?_⟩
  refine boolP_mk (ifP_of (fun h => by cases h) (fun _ => ?_))
  rw [i64_inc (by omega)]
  exact mu_next (I := I) (k := m - (j + 1)) ⟨j + 1, rfl, hjm, rfl, rfl⟩ (hlt hjm)

theorem S4.cut {own : Own} {i : Nat} {v : Value} (s : S4 own h i v (m + 1) es) : ∃ b c, v = .slice (some (bk b)) (m + 1) c ∧ m + 1 ≤ c := by
  rcases s with ⟨e, _⟩ | ⟨b, c, e, zs, _, h1, _, h3⟩
  · omega
  · exact ⟨b, c, h1, by omega⟩
theorem sliceV_0 {b c k : Nat} (hc : 0 < c) : sliceV (some (bk b)) c 0 (k : Int) 4 = .slice (some (bk b)) k c := by
  unfold sliceV
  rw [if_neg (by simp; omega)]
  simp [bk, Addr.add]
theorem Gs.take {a : Option Addr} {c : Nat} {es' : Nat → Ed} (s : Gs h (.slice a (m + 1) c) (m + 1) es') (he : ∀ j, j < m → es' j = es j) : Gs h (.slice a m c) m es := by
  obtain ⟨a', c', e, H⟩ := s
  cases e
  exact ⟨_, _, rfl, fun i hi => by rw [← he i hi]; exact H i (by omega)⟩
end

end Go.Proofs.Ytdblngaacnpgmaa

namespace Go.Proofs.Ytdblngaacnpgmaa
open Go
set_option linter.unusedVariables false
set_option linter.unusedSimpArgs false

/-- The second answer. -/
def Bk (n : Int) (m : Nat) (es : Nat → Ed) (own : Own) (q : H) (flv : List Value) (v2 e2 : Int) : Prop :=
  (e2 ≠ 0 ∧ flv = flZ) ∨ (e2 = 0 ∧ ∃ (n' s' t' d1 d2 : Nat) (f : Nat → Int) (sd : Nat → Bool), n = n' ∧ flv = flV s' t' (slV d1 m) (slV d2 n') ∧ s' < n' ∧ t' < n' ∧ s' ≠ t' ∧ Gd n' m es ∧
    v2 = OutF m (frE es) (toE es) f s' ∧ MaxP n' m (frE es) (toE es) (cpE es) s' t' f ∧ (∀ v, v < n' → (sd v = true ↔ Rch (RsS m (frE es) (toE es) (cpE es) f) s' v)) ∧
    S1 own q 8 (slV d1 m) (ints m f) ∧ S1 own q 9 (slV d2 n') (bools n' sd))
theorem Bk.fm {n : Int} {m : Nat} {es : Nat → Ed} {own own' : Own} {q q' : H} {flv : List Value} {v2 e2 : Int} {M : List Nat} (B : Bk n m es own q flv v2 e2) (F : Fm M own q own' q') (h8 : 8 ∉ M ∧ 9 ∉ M) : Bk n m es own' q' flv v2 e2 := by
  rcases B with B | ⟨e, n', s', t', d1, d2, f, sd, a1, a2, a3, a4, a5, a6, a7, a8, a9, k8, k9⟩
  · exact .inl B
  · exact .inr ⟨e, n', s', t', d1, d2, f, sd, a1, a2, a3, a4, a5, a6, a7, a8, a9, k8.fm F h8.1, k9.fm F h8.2⟩
theorem Bk.nw {n : Int} {m : Nat} {es : Nat → Ed} {own : Own} {q q' : H} {flv : List Value} {v2 e2 : Int} {b j : Nat} (B : Bk n m es own q flv v2 e2) (x : Ext q q') (hb : q b = none) : Bk n m es (own1 own b j) q' flv v2 e2 :=
  B.fm (M := []) (Fm.new x hb) (by simp)
theorem Bk.one {n : Int} {m : Nat} {es : Nat → Ed} {own : Own} {q : H} {flv : List Value} {v2 e2 : Int} (B : Bk n m es own q flv v2 e2) : flv.length = 4 ∧ ∀ v ∈ flv, v.oneCell' = true := by
  rcases B with ⟨_, rfl⟩ | ⟨e, n', s', t', d1, d2, f, sd, a1, rfl, _⟩
  · exact ⟨rfl, by simp [Value.oneCell']⟩
  · exact ⟨rfl, by simp [Value.oneCell']⟩

end Go.Proofs.Ytdblngaacnpgmaa

namespace Go.Proofs.Ytdblngaacnpgmaa
open Go
open Classical
set_option linter.unusedVariables false

/-- Of more things than places two have the same. -/
theorem pigeon : ∀ {n : Nat} {x : Nat → Nat}, (∀ i, i ≤ n → x i < n) → ∃ i j, i < j ∧ j ≤ n ∧ x i = x j
  | 0, x, h => absurd (h 0 (Nat.le_refl 0)) (Nat.not_lt_zero _)
  | n + 1, x, h => by
    by_cases c : ∃ i, i ≤ n ∧ x i = x (n + 1)
    · obtain ⟨i, hi, e⟩ := c
      exact ⟨i, n + 1, by omega, Nat.le_refl _, e⟩
    have hc : ∀ i, i ≤ n → x i ≠ x (n + 1) := fun i hi e => c ⟨i, hi, e⟩
    have hl := h (n + 1) (Nat.le_refl _)
    obtain ⟨i, j, h1, h2, h3⟩ := pigeon (n := n) (x := fun i => if x i < x (n + 1) then x i else x i - 1) (fun i hi => by
      have := hc i hi
      have := h i (by omega)
      split <;> omega)
    refine ⟨i, j, h1, by omega, ?_⟩
    have a := hc i (by omega)
    have b := hc j h2
    split at h3 <;> split at h3 <;> omega

def updN (f : Nat → Nat) (i x : Nat) : Nat → Nat := fun j => if j = i then x else f j
theorem updN_at {f : Nat → Nat} {i x : Nat} : updN f i x i = x := if_pos rfl
theorem updN_ne {f : Nat → Nat} {i x j : Nat} (h : j ≠ i) : updN f i x j = f j := if_neg h
/-- Distances are made less along edges: in round k, at edge j. r: the round of the last change, τ: its time. -/
structure BF (M : Nat) (fr to : Nat → Nat) (c : Nat → Int) (U : Nat → Prop) (C : Int) (k j : Nat) (d : Nat → Int) (via τ r : Nat → Nat) (tm : Nat) : Prop where
  set : ∀ v, 0 < r v → via v < M ∧ U (via v) ∧ to (via v) = v ∧ d (fr (via v)) + c (via v) ≤ d v ∧ (τ v ≤ τ (fr (via v)) → d (fr (via v)) + c (via v) < d v)
  rnd : ∀ v, 0 < r v → r v ≤ r (fr (via v)) + 1
  rk : ∀ v, r v ≤ k
  tmx : ∀ v, τ v < tm
  un0 : ∀ v, r v = 0 → d v = 0
  neg : ∀ v, d v ≤ 0
  lb : ∀ v, -(tm * C) ≤ d v
  tri1 : ∀ i, i < j → i < M → U i → r (fr i) < k → d (to i) ≤ d (fr i) + c i
  tri2 : ∀ i, j ≤ i → i < M → U i → r (fr i) + 1 < k → d (to i) ≤ d (fr i) + c i

section
variable {M : Nat} {fr to : Nat → Nat} {c : Nat → Int} {U : Nat → Prop} {C : Int} {k j : Nat} {d : Nat → Int} {via τ r : Nat → Nat} {tm : Nat}
theorem BF.start (hC : 0 ≤ C) : BF M fr to c U C 1 0 (fun _ => 0) via (fun _ => 0) (fun _ => 0) 1 := by
  refine ⟨fun v h => by omega, fun v h => by omega, fun v => by omega, fun v => by omega, fun v _ => rfl, fun v => Int.le_refl _, fun v => by simp; omega, fun i h => by omega, fun i _ _ _ h => by omega⟩
theorem BF.skip (B : BF M fr to c U C k j d via τ r tm) (h : ¬ U j ∨ d (to j) ≤ d (fr j) + c j) : BF M fr to c U C k (j + 1) d via τ r tm := by
  refine ⟨B.set, B.rnd, B.rk, B.tmx, B.un0, B.neg, B.lb, fun i h1 h2 h3 h4 => ?_, fun i h1 => B.tri2 i (by omega)⟩
  by_cases e : i = j
  · subst e
    rcases h with h | h
    · exact absurd h3 h
    · exact h
  · exact B.tri1 i (by omega) h2 h3 h4
theorem BF.next (B : BF M fr to c U C k M d via τ r tm) : BF M fr to c U C (k + 1) 0 d via τ r tm :=
  ⟨B.set, B.rnd, fun v => by have := B.rk v; omega, B.tmx, B.un0, B.neg, B.lb, fun i h => by omega, fun i _ h2 h3 h4 => B.tri1 i h2 h2 h3 (by omega)⟩
/-- A round without a change: nothing can be made less. -/
theorem BF.done (B : BF M fr to c U C k M d via τ r tm) (h : ∀ v, r v < k) : ∀ i, i < M → U i → d (to i) ≤ d (fr i) + c i := fun i hi hu => B.tri1 i hi hi hu (h _)

/-- The way back. -/
def bck (fr via : Nat → Nat) (v : Nat) : Nat → Nat
  | 0 => v
  | i + 1 => fr (via (bck fr via v i))
theorem bck_add {v i : Nat} : ∀ {l : Nat}, bck fr via v (i + l) = bck fr via (bck fr via v i) l
  | 0 => rfl
  | l + 1 => by
    show fr (via (bck fr via v (i + l))) = fr (via (bck fr via (bck fr via v i) l))
    rw [bck_add]
/-- Round about: less than nothing. -/
theorem BF.circ (B : BF M fr to c U C k j d via τ r tm) {y p : Nat} (hp : 1 ≤ p) (hy : bck fr via y p = y) (hr : ∀ i, i < p → 0 < r (bck fr via y i)) :
    sumN p (fun s => c (via (bck fr via y s))) < 0 := by
  have key : ∀ q, q ≤ p → sumN q (fun s => c (via (bck fr via y s))) < d y - d (bck fr via y q) ∨
      (sumN q (fun s => c (via (bck fr via y s))) ≤ d y - d (bck fr via y q) ∧ τ (bck fr via y q) + q ≤ τ y) := by
    intro q
    induction q with
    | zero => intro _; right; exact ⟨by show (0 : Int) ≤ d y - d y; omega, Nat.le_refl _⟩
    | succ q ih =>
      intro hq
      obtain ⟨_, _, _, h4, h5⟩ := B.set _ (hr q (by omega))
      have e : sumN (q + 1) (fun s => c (via (bck fr via y s))) = sumN q (fun s => c (via (bck fr via y s))) + c (via (bck fr via y q)) := rfl
      have e2 : bck fr via y (q + 1) = fr (via (bck fr via y q)) := rfl
      rw [e, e2]
      by_cases ht : τ (bck fr via y q) ≤ τ (fr (via (bck fr via y q)))
      · have := h5 ht
        rcases ih (by omega) with h | ⟨h, _⟩ <;> (left; omega)
      · rcases ih (by omega) with h | ⟨h, h'⟩
        · left; omega
        · right; exact ⟨by omega, by omega⟩
  rcases key p (Nat.le_refl _) with h | ⟨_, h⟩
  · rw [hy] at h; omega
  · rw [hy] at h; omega
/-- Who was changed in round n + 1 hangs on a circle. -/
theorem BF.found {n : Nat} (B : BF M fr to c U C (n + 1) j d via τ r tm) (hn : ∀ i, i < M → fr i < n ∧ to i < n) {v : Nat} (hv : r v = n + 1) :
    (∀ i, 0 < r (bck fr via v i)) ∧ ∃ p, 1 ≤ p ∧ p ≤ n ∧ bck fr via (bck fr via v n) p = bck fr via v n := by
  have h1 : ∀ i, i ≤ n → n + 1 ≤ r (bck fr via v i) + i := by
    intro i
    induction i with
    | zero => intro _; show n + 1 ≤ r v + 0; omega
    | succ i ih =>
      intro hi
      have a := ih (by omega)
      have := B.rnd (bck fr via v i) (by omega)
      show n + 1 ≤ r (fr (via (bck fr via v i))) + (i + 1)
      omega
  have hlt : ∀ i, 0 < r (bck fr via v i) → bck fr via v i < n := fun i hi => by
    obtain ⟨a, _, b, _⟩ := B.set _ hi
    have := (hn _ a).2
    omega
  obtain ⟨i, l, h2, h3, h4⟩ := pigeon (n := n) (x := bck fr via v) fun i hi => hlt i (by have := h1 i hi; omega)
  have hs : ∀ s, bck fr via v (i + s) = bck fr via v (l + s) := fun s => by rw [bck_add, bck_add, h4]
  have hall : ∀ b t, t ≤ b → 0 < r (bck fr via v t) := by
    intro b
    induction b with
    | zero => intro t ht; have := h1 t (by omega); omega
    | succ b ih =>
      intro t ht
      by_cases e : t ≤ n
      · have := h1 t e; omega
      · have := hs (t - l)
        rw [show l + (t - l) = t by omega] at this
        rw [← this]
        exact ih _ (by omega)
  refine ⟨fun i => hall i i (Nat.le_refl _), l - i, by omega, by omega, ?_⟩
  rw [← bck_add]
  have := hs (n - i)
  rw [show i + (n - i) = n by omega, show l + (n - i) = n + (l - i) by omega] at this
  exact this.symm
/-- Without a circle less than nothing the distances are not far below 0. -/
theorem BF.low {n : Nat} (B : BF M fr to c U C k j d via τ r tm) (hn : ∀ i, i < M → fr i < n ∧ to i < n) (hC : ∀ i, i < M → -C ≤ c i) (hC0 : 0 ≤ C)
    (tri : ∀ i, i < M → U i → d (to i) ≤ d (fr i) + c i) (v : Nat) : -(n * C) ≤ d v := by
  have some0 : ∃ i, i ≤ n ∧ r (bck fr via v i) = 0 := by
    apply Classical.byContradiction
    intro h
    have hr : ∀ i, i ≤ n → 0 < r (bck fr via v i) := fun i hi => by
      apply Classical.byContradiction
      intro h2; exact h ⟨i, hi, by omega⟩
    obtain ⟨i, l, h2, h3, h4⟩ := pigeon (n := n) (x := bck fr via v) fun i hi => by
      obtain ⟨a, _, b, _⟩ := B.set _ (hr i hi)
      have := (hn _ a).2
      omega
    have hy : bck fr via (bck fr via v i) (l - i) = bck fr via v i := by
      rw [← bck_add, show i + (l - i) = l by omega, h4]
    have hc := B.circ (y := bck fr via v i) (p := l - i) (by omega) hy fun s hs => by
      rw [← bck_add]; exact hr _ (by omega)
    have : ∀ q, q ≤ l - i → d (bck fr via v i) - d (bck fr via (bck fr via v i) q) ≤ sumN q fun s => c (via (bck fr via (bck fr via v i) s)) := by
      intro q
      induction q with
      | zero => intro _; show d (bck fr via v i) - d (bck fr via v i) ≤ 0; omega
      | succ q ih =>
        intro hq
        have a := ih (by omega)
        obtain ⟨b1, b2, b3, _⟩ := B.set (bck fr via (bck fr via v i) q) (by rw [← bck_add]; exact hr _ (by omega))
        have b4 := tri _ b1 b2
        rw [b3] at b4
        show d (bck fr via v i) - d (fr (via (bck fr via (bck fr via v i) q))) ≤ sumN q (fun s => c (via (bck fr via (bck fr via v i) s))) + c (via (bck fr via (bck fr via v i) q))
        omega
    have := this (l - i) (Nat.le_refl _)
    rw [hy] at this
    omega
  have key : ∀ i, i ≤ n → (∀ l, l < i → 0 < r (bck fr via v l)) → d (bck fr via v i) - (i * C) ≤ d v := by
    intro i
    induction i with
    | zero => intro _ _; show d v - ((0 : Nat) : Int) * C ≤ d v; simp
    | succ i ih =>
      intro hi hl
      have a := ih (by omega) fun l h => hl l (by omega)
      obtain ⟨b1, b2, b3, b4, _⟩ := B.set _ (hl i (by omega))
      have b5 := hC _ b1
      have e : ((i + 1 : Nat) : Int) * C = i * C + C := by rw [Int.natCast_add, Int.add_mul]; simp
      rw [e]
      show d (fr (via (bck fr via v i))) - _ ≤ d v
      generalize (i : Int) * C = P at *
      omega
  have least : ∃ i, i ≤ n ∧ r (bck fr via v i) = 0 ∧ ∀ l, l < i → 0 < r (bck fr via v l) := by
    obtain ⟨i, hi, hr⟩ := some0
    have : ∀ b i, i ≤ b → i ≤ n → r (bck fr via v i) = 0 → ∃ i, i ≤ n ∧ r (bck fr via v i) = 0 ∧ ∀ l, l < i → 0 < r (bck fr via v l) := by
      intro b
      induction b with
      | zero => intro i h1 h2 h3; exact ⟨i, h2, h3, fun l hl => by omega⟩
      | succ b ih =>
        intro i h1 h2 h3
        by_cases e : ∃ l, l < i ∧ r (bck fr via v l) = 0
        · obtain ⟨l, hl, e⟩ := e
          exact ih l (by omega) (by omega) e
        · exact ⟨i, h2, h3, fun l hl => by
            apply Classical.byContradiction
            intro h; exact e ⟨l, hl, by omega⟩⟩
    exact this i i (Nat.le_refl _) hi hr
  obtain ⟨i, hi, hr, hl⟩ := least
  have a := key i hi hl
  rw [B.un0 _ hr] at a
  have : (i : Int) * C ≤ n * C := Int.mul_le_mul_of_nonneg_right (by omega) hC0
  omega
end

end Go.Proofs.Ytdblngaacnpgmaa

namespace Go.Proofs.Ytdblngaacnpgmaa
open Go
open Classical
set_option linter.unusedVariables false

abbrev ckE (es : Nat → Ed) (i : Nat) : Int := (es i).k
/-- An arc's cost. -/
def cA (k : Nat → Int) (a : Nat) : Int := if a % 2 = 0 then k (a / 2) else - k (a / 2)
theorem cA_0 {k : Nat → Int} (i : Nat) : cA k (2 * i) = k i := by unfold cA; rw [if_pos (by omega), show 2 * i / 2 = i by omega]
theorem cA_1 {k : Nat → Int} (i : Nat) : cA k (2 * i + 1) = - k i := by unfold cA; rw [if_neg (by omega), show (2 * i + 1) / 2 = i by omega]
theorem tlA_0 {fr to : Nat → Nat} (i : Nat) : tlA fr to (2 * i) = fr i := by unfold tlA; rw [if_pos (by omega), show 2 * i / 2 = i by omega]
theorem tlA_1 {fr to : Nat → Nat} (i : Nat) : tlA fr to (2 * i + 1) = to i := by unfold tlA; rw [if_neg (by omega), show (2 * i + 1) / 2 = i by omega]
theorem hdA_0 {fr to : Nat → Nat} (i : Nat) : hdA fr to (2 * i) = to i := by unfold hdA; rw [if_pos (by omega), show 2 * i / 2 = i by omega]
theorem hdA_1 {fr to : Nat → Nat} (i : Nat) : hdA fr to (2 * i + 1) = fr i := by unfold hdA; rw [if_neg (by omega), show (2 * i + 1) / 2 = i by omega]
/-- What amounts cost. -/
def totC (m : Nat) (k f : Nat → Int) : Int := sumN m fun i => k i * f i
/-- Amounts that meet supplies. -/
structure PlanP (n m : Nat) (fr to : Nat → Nat) (cap b f : Nat → Int) : Prop where
  cp : ∀ i, i < m → 0 ≤ f i ∧ f i ≤ cap i
  out : ∀ v, v < n → OutF m fr to f v = b v
/-- The potentials prove it. -/
def PotP (m : Nat) (fr to : Nat → Nat) (cap k f p : Nat → Int) : Prop :=
  ∀ i, i < m → (0 < k i + p (fr i) - p (to i) → f i = 0) ∧ (k i + p (fr i) - p (to i) < 0 → f i = cap i)
/-- No arc with room costs less than nothing, by potentials. -/
def RedP (m : Nat) (fr to : Nat → Nat) (k room p : Nat → Int) : Prop := ∀ a, a < 2 * m → 0 < room a → 0 ≤ cA k a + p (tlA fr to a) - p (hdA fr to a)

section
variable {n m : Nat} {fr to : Nat → Nat} {cap k b f g p room : Nat → Int}
theorem RedP.pot (R : RmP m cap room) (P : RedP m fr to k room p) : PotP m fr to cap k (onR room) p := by
  intro i hi
  have e := R.sum i hi
  have h1 := R.pos (2 * i) (by omega)
  have h2 := R.pos (2 * i + 1) (by omega)
  have a := P (2 * i) (by omega)
  have c := P (2 * i + 1) (by omega)
  rw [cA_0, tlA_0, hdA_0] at a
  rw [cA_1, tlA_1, hdA_1] at c
  unfold onR
  constructor
  · intro h
    apply Classical.byContradiction
    intro h3
    have := c (by omega); omega
  · intro h
    apply Classical.byContradiction
    intro h3
    have := a (by omega); omega
theorem RmP.plan (R : RmP m cap room) (ho : ∀ v, v < n → OutF m fr to (onR room) v = b v) : PlanP n m fr to cap b (onR room) :=
  ⟨fun i hi => by
    have e := R.sum i hi
    have h1 := R.pos (2 * i) (by omega)
    have h2 := R.pos (2 * i + 1) (by omega)
    unfold onR; omega, ho⟩
theorem pot_out (hn : ∀ i, i < m → fr i < n ∧ to i < n) (p h : Nat → Int) :
    sumN m (fun i => (p (fr i) - p (to i)) * h i) = sumN n fun v => p v * OutF m fr to h v := by
  have e1 : sumN n (fun v => p v * OutF m fr to h v) = sumN n fun v => sumN m fun i => (if fr i = v then p (fr i) * h i else 0) - (if to i = v then p (to i) * h i else 0) := by
    refine sumN_congr fun v _ => ?_
    unfold OutF
    rw [← sumN_mul]
    refine sumN_congr fun i _ => ?_
    rw [Int.mul_sub]
    congr 1
    · by_cases e : fr i = v
      · rw [if_pos e, if_pos e, e]
      · rw [if_neg e, if_neg e, Int.mul_zero]
    · by_cases e : to i = v
      · rw [if_pos e, if_pos e, e]
      · rw [if_neg e, if_neg e, Int.mul_zero]
  rw [e1, sumN_swap]
  refine sumN_congr fun i hi => ?_
  have := hn i hi
  rw [sumN_sub, sumN_pt, sumN_pt, if_pos this.1, if_pos this.2, Int.sub_mul]
/-- What is proved costs no more than anything else. -/
theorem PlanP.best (F : PlanP n m fr to cap b f) (G : PlanP n m fr to cap b g) (hn : ∀ i, i < m → fr i < n ∧ to i < n) (P : PotP m fr to cap k f p) : totC m k f ≤ totC m k g := by
  have e1 : sumN m (fun i => (p (fr i) - p (to i)) * (g i - f i)) = 0 := by
    have : (fun i => (p (fr i) - p (to i)) * (g i - f i)) = fun i => (p (fr i) - p (to i)) * g i - (p (fr i) - p (to i)) * f i := by
      funext i; rw [Int.mul_sub]
    rw [this, sumN_sub, pot_out hn p g, pot_out hn p f, ← sumN_sub]
    refine sumN_zero fun v hv => ?_
    rw [F.out v hv, G.out v hv]; omega
  have e2 : totC m k g - totC m k f = sumN m (fun i => (k i + p (fr i) - p (to i)) * (g i - f i)) := by
    have e3 : sumN m (fun i => (k i + p (fr i) - p (to i)) * (g i - f i)) = sumN m (fun i => (k i * g i - k i * f i) + (p (fr i) - p (to i)) * (g i - f i)) := sumN_congr fun i _ => by
      rw [show k i + p (fr i) - p (to i) = k i + (p (fr i) - p (to i)) by omega, Int.add_mul, Int.mul_sub]
    rw [e3, sumN_add, e1, sumN_sub]; unfold totC; omega
  have e4 : 0 ≤ sumN m (fun i => (k i + p (fr i) - p (to i)) * (g i - f i)) := sumN_nonneg fun i hi => by
    have a := F.cp i hi
    have c := G.cp i hi
    have q := P i hi
    by_cases h1 : 0 < k i + p (fr i) - p (to i)
    · exact Int.mul_nonneg (by omega) (by have := q.1 h1; omega)
    · by_cases h2 : k i + p (fr i) - p (to i) < 0
      · exact Int.mul_nonneg_of_nonpos_of_nonpos (by omega) (by have := q.2 h2; omega)
      · rw [show k i + p (fr i) - p (to i) = 0 by omega, Int.zero_mul]; omega
  omega
/-- More is supplied on a side than can leave it. -/
theorem PlanP.side (F : PlanP n m fr to cap b f) (hn : ∀ i, i < m → fr i < n ∧ to i < n) (C : Nat → Prop) : sumN n (fun v => if C v then b v else 0) ≤ cutC m fr to cap C := by
  have e := out_side (f := f) hn C
  have e2 : sumN n (fun v => if C v then b v else 0) = sumN n (fun v => if C v then OutF m fr to f v else 0) := sumN_congr fun v hv => by rw [F.out v hv]
  rw [e2, e]
  refine sumN_le fun i hi => ?_
  have := F.cp i hi
  by_cases h1 : C (fr i) <;> by_cases h2 : C (to i) <;> simp [h1, h2] <;> omega
end

end Go.Proofs.Ytdblngaacnpgmaa

namespace Go.Proofs.Ytdblngaacnpgmaa
open Go
set_option linter.unusedVariables false

theorem upd2_at {st : Nat → Nat → Int} {v j : Nat} {x : Int} : upd2 st v j x v j = x := if_pos ⟨rfl, rfl⟩
theorem upd2_v {st : Nat → Nat → Int} {v j w i : Nat} {x : Int} (h : w ≠ v) : upd2 st v j x w i = st w i := if_neg (fun k => h k.1)
theorem upd2_j {st : Nat → Nat → Int} {v j w i : Nat} {x : Int} (h : i ≠ j) : upd2 st v j x w i = st w i := if_neg (fun k => h k.2)

/-- Each is followed by the next: field 3 goes on, field 2 back. -/
def Lk (st : Nat → Nat → Int) : List Nat → Prop
  | a :: b :: t => st a 3 = (b : Nat) ∧ st b 2 = (a : Nat) ∧ Lk st (b :: t)
  | _ => True
def Cyc (st : Nat → Nat → Int) : List Nat → Prop
  | [] => True
  | a :: t => Lk st (a :: t ++ [a])
section
variable {st st' : Nat → Nat → Int}
theorem Lk.app {a : Nat} {l2 : List Nat} : ∀ {l1 : List Nat}, Lk st (l1 ++ a :: l2) ↔ Lk st (l1 ++ [a]) ∧ Lk st (a :: l2)
  | [] => by simp [Lk]
  | [x] => by simp [Lk, and_assoc]
  | x :: y :: t => by
    have := Lk.app (a := a) (l2 := l2) (l1 := y :: t)
    simp only [List.cons_append, Lk] at this ⊢
    rw [this]; simp [and_assoc]
theorem Lk.snoc {a b : Nat} {l : List Nat} : Lk st (l ++ [a, b]) ↔ Lk st (l ++ [a]) ∧ st a 3 = b ∧ st b 2 = a := by
  rw [show l ++ [a, b] = l ++ a :: [b] from rfl, Lk.app]
  simp [Lk]
theorem Lk.congr : ∀ {l : List Nat}, (∀ x ∈ l.dropLast, st' x 3 = st x 3) → (∀ x ∈ l.tail, st' x 2 = st x 2) → Lk st l → Lk st' l
  | [], _, _, _ => trivial
  | [x], _, _, _ => trivial
  | a :: b :: t, h3, h2, h => by
    refine ⟨?_, ?_, Lk.congr (l := b :: t) (fun x hx => h3 x ?_) (fun x hx => h2 x ?_) h.2.2⟩
    · rw [h3 a (by simp)]; exact h.1
    · rw [h2 b (by simp)]; exact h.2.1
    · rw [List.dropLast_cons_of_ne_nil (by simp)]; exact List.mem_cons_of_mem _ hx
    · exact List.mem_cons_of_mem _ hx
theorem Cyc.rot {l1 l2 : List Nat} (h : Cyc st (l1 ++ l2)) : Cyc st (l2 ++ l1) := by
  cases l1 with
  | nil => simpa using h
  | cons a t =>
    cases l2 with
    | nil => simpa using h
    | cons b u =>
      have h : Lk st (a :: (t ++ b :: u) ++ [a]) := h
      show Lk st (b :: (u ++ a :: t) ++ [b])
      have e1 : a :: (t ++ b :: u) ++ [a] = (a :: t) ++ b :: (u ++ [a]) := by simp
      have e2 : b :: (u ++ a :: t) ++ [b] = (b :: u) ++ a :: (t ++ [b]) := by simp
      rw [e1, Lk.app] at h
      rw [e2, Lk.app]
      exact ⟨h.2, h.1⟩
theorem Cyc.congr {l : List Nat} (h3 : ∀ x ∈ l, st' x 3 = st x 3) (h2 : ∀ x ∈ l, st' x 2 = st x 2) (h : Cyc st l) : Cyc st' l := by
  cases l with
  | nil => trivial
  | cons a t =>
    refine Lk.congr (fun x hx => h3 x ?_) (fun x hx => h2 x ?_) h
    · rw [show a :: t ++ [a] = (a :: t) ++ [a] from rfl, List.dropLast_concat] at hx; exact hx
    · have hx : x ∈ t ++ [a] := hx
      simp only [List.mem_append, List.mem_singleton] at hx
      rcases hx with h | rfl
      · exact List.mem_cons_of_mem _ h
      · exact List.mem_cons_self
/-- From any of its nodes on. -/
theorem Cyc.from {l : List Nat} {x : Nat} (h : Cyc st l) (hx : x ∈ l) (nd : l.Nodup) : ∃ t, Cyc st (x :: t) ∧ (x :: t).Nodup ∧ (∀ y, y ∈ x :: t ↔ y ∈ l) ∧ (x :: t).length = l.length := by
  obtain ⟨l1, l2, rfl⟩ := List.append_of_mem hx
  have p : ((x :: l2) ++ l1).Perm (l1 ++ x :: l2) := List.perm_append_comm
  exact ⟨l2 ++ l1, h.rot, p.nodup_iff.2 nd, fun y => p.mem_iff, p.length_eq⟩
/-- A node is put in behind at. -/
def jn (st : Nat → Nat → Int) (h at_ : Nat) : Nat → Nat → Int :=
  upd2 (upd2 (upd2 (upd2 st h 2 (at_ : Nat)) h 3 (st at_ 3)) at_ 3 (h : Nat)) (st at_ 3).toNat 2 (h : Nat)
theorem Cyc.next {a : Nat} {t : List Nat} (h : Cyc st (a :: t)) : ∃ r s, t ++ [a] = r :: s ∧ st a 3 = (r : Nat) ∧ st r 2 = (a : Nat) ∧ Lk st (r :: s) := by
  cases t with
  | nil => exact ⟨a, [], rfl, h.1, h.2.1, trivial⟩
  | cons b u => exact ⟨b, u ++ [a], rfl, h.1, h.2.1, h.2.2⟩
theorem Cyc.join {a h : Nat} {t : List Nat} (C : Cyc st (a :: t)) (nd : (a :: t).Nodup) (hh : h ∉ a :: t) : Cyc (jn st h a) (a :: h :: t) := by
  obtain ⟨r, s, e, h1, h2, h3⟩ := C.next
  have er : (st a 3).toNat = r := by rw [h1]; omega
  have nd2 : (t ++ [a]).Nodup := (List.perm_append_comm (l₁ := t) (l₂ := [a])).nodup_iff.2 nd
  have hmem : ∀ x, x ∈ t ++ [a] ↔ x ∈ a :: t := fun x => (List.perm_append_comm (l₁ := t) (l₂ := [a])).mem_iff
  have hra : h ≠ r := by
    rintro rfl
    exact hh ((hmem h).1 (by rw [e]; simp))
  have hha : h ≠ a := by rintro rfl; simp at hh
  show Lk (jn st h a) (a :: h :: (t ++ [a]))
  rw [e]
  rw [e] at nd2
  refine ⟨?_, ?_, ?_, ?_, ?_⟩
  · unfold jn; rw [er, upd2_j (by omega), upd2_at]
  · unfold jn; rw [er, upd2_v hra, upd2_j (by omega), upd2_j (by omega), upd2_at]
  · unfold jn; rw [er, upd2_j (by omega), upd2_v hha, upd2_at, h1]
  · unfold jn; rw [er, upd2_at]
  · refine Lk.congr (fun x hx => ?_) (fun x hx => ?_) h3
    · have hx2 : x ∈ t := by rw [← e, List.dropLast_concat] at hx; exact hx
      have n1 : x ≠ a := by rintro rfl; exact (List.nodup_cons.1 nd).1 hx2
      have n2 : x ≠ h := by rintro rfl; exact hh (List.mem_cons_of_mem _ hx2)
      unfold jn; rw [upd2_j (by omega), upd2_v n1, upd2_v n2, upd2_v n2]
    · have hx : x ∈ s := hx
      have n1 : x ≠ r := by rintro rfl; exact (List.nodup_cons.1 nd2).1 hx
      have n2 : x ≠ h := by
        rintro rfl
        exact hh ((hmem _).1 (by rw [e]; exact List.mem_cons_of_mem _ hx))
      unfold jn; rw [er, upd2_v n1, upd2_j (by omega), upd2_j (by omega), upd2_v n2]
/-- A node alone. -/
theorem Cyc.one {a : Nat} (h3 : st a 3 = (a : Nat)) (h2 : st a 2 = (a : Nat)) : Cyc st [a] := ⟨h3, h2, trivial⟩
/-- A node is taken out of its ring. -/
def lv (st : Nat → Nat → Int) (h : Nat) : Nat → Nat → Int :=
  upd2 (upd2 (upd2 (upd2 st (st h 2).toNat 3 (st h 3)) (st h 3).toNat 2 (st h 2)) h 2 (h : Nat)) h 3 (h : Nat)
theorem Cyc.sides {h : Nat} {t : List Nat} (C : Cyc st (h :: t)) : ∃ l r : Nat, st h 2 = l ∧ st h 3 = r ∧ l ∈ h :: t ∧ r ∈ h :: t := by
  obtain ⟨r, s, e, h1, h2, h3⟩ := C.next
  have hr : r ∈ h :: t := (List.perm_append_comm (l₁ := t) (l₂ := [h])).mem_iff.1 (by rw [e]; simp)
  have : ∃ l, l ∈ h :: t ∧ st h 2 = (l : Nat) := by
    rcases List.eq_nil_or_concat t with rfl | ⟨u, z, rfl⟩
    · exact ⟨h, by simp, C.2.1⟩
    · have C : Lk st (h :: (u ++ [z]) ++ [h]) := by simpa [Cyc] using C
      have e : h :: (u ++ [z]) ++ [h] = (h :: u) ++ [z, h] := by simp
      rw [e, Lk.snoc] at C
      exact ⟨z, by simp, C.2.2⟩
  obtain ⟨l, hl, e2⟩ := this
  exact ⟨l, r, e2, h1, hl, hr⟩
theorem Cyc.leave {h : Nat} {t : List Nat} (C : Cyc st (h :: t)) (nd : (h :: t).Nodup) : Cyc (lv st h) t := by
  cases t with
  | nil => trivial
  | cons y t' =>
    have hy : st h 3 = (y : Nat) := C.1
    have hyt : h ∉ y :: t' := (List.nodup_cons.1 nd).1
    have ndt := (List.nodup_cons.1 nd).2
    show Lk (lv st h) (y :: t' ++ [y])
    rcases List.eq_nil_or_concat (y :: t') with e | ⟨u, z, e⟩
    · cases e
    · have e : y :: t' = u ++ [z] := by simpa using e
      have C : Lk st (h :: (y :: t') ++ [h]) := C
      rw [e] at C
      have e3 : h :: (u ++ [z]) ++ [h] = (h :: u) ++ [z, h] := by simp
      rw [e3, Lk.snoc] at C
      obtain ⟨C1, hz3, hz2⟩ := C
      have C1 : Lk st (u ++ [z]) := by
        have : Lk st (h :: (u ++ [z])) := C1
        rw [← e] at this ⊢
        exact this.2.2
      have ez : (st h 2).toNat = z := by rw [hz2]; omega
      have ey : (st h 3).toNat = y := by rw [hy]; omega
      have hzm : z ∈ y :: t' := by rw [e]; simp
      have nz : z ≠ h := by rintro rfl; exact hyt hzm
      have ny : y ≠ h := by rintro rfl; exact hyt (by simp)
      rw [e]
      have e4 : u ++ [z] ++ [y] = u ++ [z, y] := by simp
      rw [e4, Lk.snoc]
      refine ⟨Lk.congr (fun x hx => ?_) (fun x hx => ?_) C1, ?_, ?_⟩
      · rw [List.dropLast_concat] at hx
        have n1 : x ≠ z := by
          rintro rfl
          rw [e] at ndt
          have := List.nodup_append.1 ndt
          exact absurd rfl (this.2.2 x hx x (by simp))
        have n2 : x ≠ h := by rintro rfl; exact hyt (by rw [e]; simp [hx])
        unfold lv; rw [ez, ey, upd2_v n2, upd2_v n2, upd2_j (by omega), upd2_v n1]
      · have hx' : x ∈ t' := by rw [← e] at hx; exact hx
        have n1 : x ≠ y := by rintro rfl; exact (List.nodup_cons.1 ndt).1 hx'
        have n2 : x ≠ h := by rintro rfl; exact hyt (List.mem_cons_of_mem _ hx')
        unfold lv; rw [ez, ey, upd2_v n2, upd2_v n2, upd2_v n1, upd2_j (by omega)]
      · unfold lv; rw [ez, ey, upd2_v nz, upd2_v nz, upd2_j (by omega), upd2_at, hy]
      · unfold lv; rw [ez, ey, upd2_v ny, upd2_v ny, upd2_at, hz2]
/-- Off the ring nothing changes. -/
theorem jn_out {h a x j : Nat} {t : List Nat} (C : Cyc st (a :: t)) (hx : x ∉ a :: t) (hh : x ≠ h) : jn st h a x j = st x j := by
  obtain ⟨r, s, e, h1, h2, h3⟩ := C.next
  have er : (st a 3).toNat = r := by rw [h1]; omega
  have hr : r ∈ a :: t := (List.perm_append_comm (l₁ := t) (l₂ := [a])).mem_iff.1 (by rw [e]; simp)
  unfold jn
  rw [er, upd2_v (by rintro rfl; exact hx hr), upd2_v (by rintro rfl; simp at hx), upd2_v hh, upd2_v hh]
theorem lv_out {h x j : Nat} {t : List Nat} (C : Cyc st (h :: t)) (hx : x ∉ h :: t) : lv st h x j = st x j := by
  obtain ⟨l, r, e1, e2, hl, hr⟩ := C.sides
  have hh : x ≠ h := by rintro rfl; simp at hx
  unfold lv
  rw [e1, e2, Int.toNat_natCast, Int.toNat_natCast, upd2_v hh, upd2_v hh, upd2_v (by rintro rfl; exact hx hr), upd2_v (by rintro rfl; exact hx hl)]
end

end Go.Proofs.Ytdblngaacnpgmaa

namespace Go.Proofs.Ytdblngaacnpgmaa
open Go
open Classical
set_option linter.unusedVariables false

/-- Who comes out ahead of whom. -/
def ahd (key : Nat → Int) (a b : Nat) : Prop := key a < key b ∨ (key a = key b ∧ a < b)
theorem ahd_tr {key : Nat → Int} {a b c : Nat} (h : ahd key a b) (k : ahd key b c) : ahd key a c := by unfold ahd at *; omega
theorem ahd_irr {key : Nat → Int} {a : Nat} : ¬ ahd key a a := by unfold ahd; omega
/-- How many are so. -/
noncomputable def cntP (n : Nat) (P : Nat → Prop) : Int := sumN n fun x => if P x then 1 else 0
theorem cntP_congr {n : Nat} {P Q : Nat → Prop} (h : ∀ x, x < n → (P x ↔ Q x)) : cntP n P = cntP n Q := sumN_congr fun x hx => by
  by_cases e : P x
  · rw [if_pos e, if_pos ((h x hx).1 e)]
  · rw [if_neg e, if_neg (fun k => e ((h x hx).2 k))]
theorem cntP_le {n : Nat} {P Q : Nat → Prop} (h : ∀ x, x < n → P x → Q x) : cntP n P ≤ cntP n Q := sumN_le fun x hx => by
  by_cases e : P x
  · rw [if_pos e, if_pos (h x hx e)]; omega
  · rw [if_neg e]; split <;> omega
theorem cntP_0 {n : Nat} {P : Nat → Prop} (h : ∀ x, x < n → ¬ P x) : cntP n P = 0 := sumN_zero fun x hx => if_neg (h x hx)
theorem cntP_all {n : Nat} {P : Nat → Prop} : cntP n P ≤ n := by
  have := sumN_bd (f := fun x => if P x then 1 else 0) (k := n) (c := 1) fun x _ => by split <;> omega
  unfold cntP; omega
theorem cntP_add {n a : Nat} {P : Nat → Prop} (ha : a < n) (h : ¬ P a) : cntP n (fun x => x = a ∨ P x) = cntP n P + 1 := by
  have : cntP n (fun x => x = a ∨ P x) = sumN n fun x => (if P x then 1 else 0) + (if a = x then 1 else 0) := sumN_congr fun x _ => by
    by_cases e : x = a
    · subst e; rw [if_pos (.inl rfl), if_neg h, if_pos rfl]; rfl
    · by_cases k : P x
      · rw [if_pos (.inr k), if_pos k, if_neg (fun h => e h.symm)]; rfl
      · rw [if_neg (by rintro (h | h); exact e h; exact k h), if_neg k, if_neg (fun h => e h.symm)]; rfl
  rw [this, sumN_add, sumN_pt, if_pos ha]; rfl
theorem cntP_one {n a : Nat} {P : Nat → Prop} (ha : a < n) (h : P a) : 1 ≤ cntP n P := by
  have := cntP_le (n := n) (P := fun x => x = a ∨ False) (Q := P) (fun x _ hx => by rcases hx with rfl | h; exact h; exact h.elim)
  rw [cntP_add ha (fun h => h)] at this
  rw [cntP_0 (P := fun _ => False) fun _ _ h => h] at this
  omega
/-- At most one more. -/
theorem cntP_le1 {n a : Nat} {P Q : Nat → Prop} (h : ∀ x, x < n → P x → x = a ∨ Q x) : cntP n P ≤ cntP n Q + 1 := by
  by_cases ha : a < n
  · by_cases q : Q a
    · have := cntP_le (n := n) (P := P) (Q := Q) fun x hx hp => by
        rcases h x hx hp with rfl | h
        · exact q
        · exact h
      omega
    · have := cntP_le (n := n) (P := P) (Q := fun x => x = a ∨ Q x) h
      rw [cntP_add ha q] at this; omega
  · have := cntP_le (n := n) (P := P) (Q := Q) fun x hx hp => by
      rcases h x hx hp with rfl | h
      · exact absurd hx ha
      · exact h
    omega
theorem cntP_list {n : Nat} : ∀ {l : List Nat}, l.Nodup → (∀ x ∈ l, x < n) → cntP n (fun x => x ∈ l) = l.length
  | [], _, _ => cntP_0 fun x _ h => by simp at h
  | a :: t, nd, h => by
    have ih := cntP_list (l := t) (List.nodup_cons.1 nd).2 fun x hx => h x (List.mem_cons_of_mem _ hx)
    have : cntP n (fun x => x ∈ a :: t) = cntP n fun x => x = a ∨ x ∈ t := cntP_congr fun x _ => List.mem_cons
    rw [this, cntP_add (h a (by simp)) (List.nodup_cons.1 nd).1, ih]; simp

/-- A forest: A the nodes, R the tops, C p the ring of p's children; z may be out of order, y have one child less than its mark tells. -/
structure FT (n : Nat) (key : Nat → Int) (A R : Nat → Prop) (z y : Int) (st : Nat → Nat → Int) (C : Nat → List Nat) : Prop where
  lt : ∀ x, A x → x < n
  ra : ∀ x, R x → A x
  mem : ∀ p x, A p → (x ∈ C p ↔ A x ∧ ¬ R x ∧ st x 0 = (p : Nat))
  nd : ∀ p, A p → (C p).Nodup
  cyc : ∀ p, A p → Cyc st (C p)
  par : ∀ x, A x → ¬ R x → ∃ p : Nat, st x 0 = p ∧ A p
  ch : ∀ p, A p → (C p = [] ∧ st p 1 = -1) ∨ ∃ c : Nat, st p 1 = c ∧ c ∈ C p
  ord : ∀ x p : Nat, A x → ¬ R x → st x 0 = p → (x : Int) ≠ z → ahd key p x
  dg : ∀ p, A p → st p 4 = (C p).length
  cn : ∀ p, A p → ∀ d : Nat, cntP n (fun x => A x ∧ ¬ R x ∧ st x 0 = (p : Nat) ∧ st x 4 + st x 5 + (if (x : Int) = y then 1 else 0) ≤ d) ≤ d + 1
  mrk : ∀ x, A x → st x 5 = 0 ∨ st x 5 = 1

section
variable {n : Nat} {key : Nat → Int} {A R : Nat → Prop} {z y : Int} {st st' : Nat → Nat → Int} {C : Nat → List Nat}
theorem FT.len (F : FT n key A R z y st C) {p : Nat} (hp : A p) : cntP n (fun x => A x ∧ ¬ R x ∧ st x 0 = (p : Nat)) = (C p).length := by
  rw [← cntP_list (F.nd p hp) fun x hx => F.lt x ((F.mem p x hp).1 hx).1]
  exact cntP_congr fun x _ => (F.mem p x hp).symm
theorem FT.congr (F : FT n key A R z y st C) (h0 : ∀ x, A x → ¬ R x → ∀ j, st' x j = st x j) (h1 : ∀ x, A x → st' x 1 = st x 1 ∧ st' x 4 = st x 4) (h5 : ∀ x, A x → st' x 5 = 0 ∨ st' x 5 = 1) : FT n key A R z y st' C := by
  have hm : ∀ p x, A p → x ∈ C p → A x ∧ ¬ R x := fun p x hp hx => let h := (F.mem p x hp).1 hx; ⟨h.1, h.2.1⟩
  refine ⟨F.lt, F.ra, fun p x hp => ?_, F.nd, fun p hp => ?_, fun x hx hr => ?_, fun p hp => ?_, fun x p hx hr hp => ?_, fun p hp => ?_, fun p hp d => ?_, h5⟩
  · rw [F.mem p x hp]
    constructor
    · rintro ⟨a, b, c⟩; exact ⟨a, b, by rw [h0 x a b]; exact c⟩
    · rintro ⟨a, b, c⟩; exact ⟨a, b, by rw [h0 x a b] at c; exact c⟩
  · exact (F.cyc p hp).congr (fun x hx => h0 x (hm p x hp hx).1 (hm p x hp hx).2 3) (fun x hx => h0 x (hm p x hp hx).1 (hm p x hp hx).2 2)
  · rw [h0 x hx hr]; exact F.par x hx hr
  · rw [(h1 p hp).1]; exact F.ch p hp
  · rw [h0 x hx hr] at hp; exact F.ord x p hx hr hp
  · rw [(h1 p hp).2]; exact F.dg p hp
  · rw [cntP_congr (Q := fun x => A x ∧ ¬ R x ∧ st x 0 = (p : Nat) ∧ st x 4 + st x 5 + (if (x : Int) = y then 1 else 0) ≤ d) fun x _ => ?_]
    · exact F.cn p hp d
    · constructor
      · rintro ⟨a, b, c, e⟩; rw [h0 x a b, h0 x a b] at e; rw [h0 x a b] at c; exact ⟨a, b, c, e⟩
      · rintro ⟨a, b, c, e⟩; refine ⟨a, b, ?_, ?_⟩
        · rw [h0 x a b]; exact c
        · rw [h0 x a b, h0 x a b]; exact e
/-- The best of the tops is the best of all. -/
theorem FT.min (F : FT n key A R (-1) (-1) st C) {b : Nat} (hb : ∀ v, R v → v = b ∨ ahd key b v) : ∀ x, A x → x = b ∨ ahd key b x := by
  have key2 : ∀ k : Nat, ∀ x, A x → cntP n (fun y => ahd key y x) ≤ k → x = b ∨ ahd key b x := by
    intro k
    induction k with
    | zero =>
      intro x hx hk
      by_cases hr : R x
      · exact hb x hr
      · obtain ⟨p, hp, hap⟩ := F.par x hx hr
        have := F.ord x p hx hr hp (by omega)
        have := cntP_one (n := n) (P := fun y => ahd key y x) (F.lt p hap) this
        omega
    | succ k ih =>
      intro x hx hk
      by_cases hr : R x
      · exact hb x hr
      · obtain ⟨p, hp, hap⟩ := F.par x hx hr
        have ho := F.ord x p hx hr hp (by omega)
        have h1 : cntP n (fun y => y = p ∨ ahd key y p) ≤ cntP n (fun y => ahd key y x) := cntP_le fun y _ hy => by
          rcases hy with rfl | hy
          · exact ho
          · exact ahd_tr hy ho
        rw [cntP_add (P := fun y => ahd key y p) (F.lt p hap) ahd_irr] at h1
        right
        rcases ih p hap (by omega) with rfl | h
        · exact ho
        · exact ahd_tr h ho
  intro x hx
  exact key2 n x hx cntP_all
end

end Go.Proofs.Ytdblngaacnpgmaa

namespace Go.Proofs.Ytdblngaacnpgmaa
open Go
open Classical
set_option linter.unusedVariables false

section
variable {n : Nat} {key : Nat → Int} {A R : Nat → Prop} {z y : Int} {st st' : Nat → Nat → Int} {C : Nat → List Nat}
theorem FT.rekey {key' : Nat → Int} (F : FT n key A R z y st C) (h : ∀ x, A x → ¬ R x → ∀ p : Nat, st x 0 = p → (x : Int) ≠ z → ahd key p x → ahd key' p x) : FT n key' A R z y st C :=
  ⟨F.lt, F.ra, F.mem, F.nd, F.cyc, F.par, F.ch, fun x p hx hr hp hz => h x hx hr p hp hz (F.ord x p hx hr hp hz), F.dg, F.cn, F.mrk⟩
/-- A new top. -/
theorem FT.put (F : FT n key A R (-1) (-1) st C) {h : Nat} (hn : h < n) (hA : ¬ A h) (hs : ∀ x, x ≠ h → ∀ j, st' x j = st x j) (h1 : st' h 1 = -1) (h4 : st' h 4 = 0) (h5 : st' h 5 = 0) :
    FT n key (fun x => x = h ∨ A x) (fun x => x = h ∨ R x) (-1) (-1) st' (fun p => if p = h then [] else C p) := by
  have ne : ∀ x, A x → x ≠ h := fun x hx e => hA (e ▸ hx)
  have hp : ∀ x : Nat, A x → ¬ R x → st x 0 ≠ (h : Nat) := fun x hx hr e => by
    obtain ⟨p, e2, hp⟩ := F.par x hx hr
    have : p = h := by omega
    exact hA (this ▸ hp)
  have out : ∀ x, (x = h ∨ A x) ∧ ¬ (x = h ∨ R x) ↔ A x ∧ ¬ R x := fun x => by
    constructor
    · rintro ⟨h1 | h1, h2⟩
      · exact absurd (.inl h1) h2
      · exact ⟨h1, fun k => h2 (.inr k)⟩
    · rintro ⟨h1, h2⟩
      exact ⟨.inr h1, by rintro (k | k); exact ne x h1 k; exact h2 k⟩
  refine ⟨?_, ?_, ?_, ?_, ?_, ?_, ?_, ?_, ?_, ?_, ?_⟩
  · rintro x (rfl | hx)
    · exact hn
    · exact F.lt x hx
  · rintro x (rfl | hx)
    · exact .inl rfl
    · exact .inr (F.ra x hx)
  · intro p x hpA
    rw [← and_assoc, out x]
    by_cases e : p = h
    · subst e
      rw [if_pos rfl]
      constructor
      · intro k; simp at k
      · rintro ⟨⟨k1, k2⟩, k3⟩
        rw [hs x (ne x k1)] at k3
        exact absurd k3 (hp x k1 k2)
    · rw [if_neg e, F.mem p x (hpA.resolve_left e)]
      constructor
      · rintro ⟨a, b, c⟩; exact ⟨⟨a, b⟩, by rw [hs x (ne x a)]; exact c⟩
      · rintro ⟨⟨a, b⟩, c⟩; exact ⟨a, b, by rw [hs x (ne x a)] at c; exact c⟩
  · intro p hpA
    show (if p = h then [] else C p).Nodup
    by_cases e : p = h
    · rw [if_pos e]; exact List.nodup_nil
    · rw [if_neg e]; exact F.nd p (hpA.resolve_left e)
  · intro p hpA
    show Cyc st' (if p = h then [] else C p)
    by_cases e : p = h
    · rw [if_pos e]; trivial
    · rw [if_neg e]
      have hpA := hpA.resolve_left e
      exact (F.cyc p hpA).congr (fun x hx => hs x (ne x ((F.mem p x hpA).1 hx).1) 3) (fun x hx => hs x (ne x ((F.mem p x hpA).1 hx).1) 2)
  · intro x hx hr
    obtain ⟨a, b⟩ := (out x).1 ⟨hx, hr⟩
    obtain ⟨p, e, hpA⟩ := F.par x a b
    exact ⟨p, by rw [hs x (ne x a)]; exact e, .inr hpA⟩
  · intro p hpA
    show ((if p = h then [] else C p) = [] ∧ _) ∨ ∃ c : Nat, _ ∧ c ∈ (if p = h then [] else C p)
    by_cases e : p = h
    · subst e; rw [if_pos rfl]; exact .inl ⟨rfl, h1⟩
    · rw [if_neg e, hs p e]; exact F.ch p (hpA.resolve_left e)
  · intro x p hx hr hp' hz
    obtain ⟨a, b⟩ := (out x).1 ⟨hx, hr⟩
    rw [hs x (ne x a)] at hp'
    exact F.ord x p a b hp' hz
  · intro p hpA
    show _ = (((if p = h then [] else C p).length : Nat) : Int)
    by_cases e : p = h
    · subst e; rw [if_pos rfl, h4]; rfl
    · rw [if_neg e, hs p e]; exact F.dg p (hpA.resolve_left e)
  · intro p hpA d
    by_cases e : p = h
    · subst e
      rw [cntP_0]
      · omega
      · rintro x _ ⟨k1, k2, k3, _⟩
        obtain ⟨a, b⟩ := (out x).1 ⟨k1, k2⟩
        rw [hs x (ne x a)] at k3
        exact hp x a b k3
    · refine Int.le_trans (cntP_le fun x _ => ?_) (F.cn p (hpA.resolve_left e) d)
      rintro ⟨k1, k2, k3, k4⟩
      obtain ⟨a, b⟩ := (out x).1 ⟨k1, k2⟩
      rw [hs x (ne x a)] at k3
      rw [hs x (ne x a), hs x (ne x a)] at k4
      exact ⟨a, b, k3, k4⟩
  · rintro x (rfl | hx)
    · exact .inl h5
    · rw [hs x (ne x hx)]; exact F.mrk x hx

/-- A node is cut off its parent. -/
theorem FT.drop (F : FT n key A R z y st C) {h p : Nat} (hA : A h) (hR : ¬ R h) (hp : st h 0 = (p : Nat)) (hz : ∀ x : Nat, x ≠ h → (x : Int) ≠ z) (hy : ∀ x : Nat, x ≠ h → (x : Int) ≠ y)
    (s0 : ∀ x, x ≠ p → ∀ j, j ≠ 2 ∧ j ≠ 3 → st' x j = st x j) (s4 : st' p 4 = st p 4 - 1) (s1 : st' p 1 = if st p 4 - 1 = 0 then -1 else if st p 1 = (h : Nat) then st h 3 else st p 1)
    (sp : st' p 0 = st p 0 ∧ st' p 5 = st p 5) (sl : ∀ x, st' x 2 = lv st h x 2 ∧ st' x 3 = lv st h x 3) :
    ∃ C', FT n key A (fun x => x = h ∨ R x) (-1) (p : Nat) st' C' := by
  obtain ⟨p', hp', hpA⟩ := F.par h hA hR
  have : p' = p := by omega
  subst this
  have hmem : h ∈ C p' := (F.mem p' h hpA).2 ⟨hA, hR, hp⟩
  obtain ⟨t, hc, hnd, hm, hl⟩ := (F.cyc p' hpA).from hmem (F.nd p' hpA)
  have ht : ∀ x, x ∈ t ↔ x ∈ C p' ∧ x ≠ h := fun x => by
    rw [← hm x]
    constructor
    · intro k; exact ⟨List.mem_cons_of_mem _ k, by rintro rfl; exact (List.nodup_cons.1 hnd).1 k⟩
    · rintro ⟨k, k2⟩
      rcases List.mem_cons.1 k with e | e
      · exact absurd e k2
      · exact e
  have e0 : ∀ x, st' x 0 = st x 0 := fun x => by
    by_cases e : x = p'
    · subst e; exact sp.1
    · exact s0 x e 0 (by omega)
  have e5 : ∀ x, st' x 5 = st x 5 := fun x => by
    by_cases e : x = p'
    · subst e; exact sp.2
    · exact s0 x e 5 (by omega)
  have eC : ∀ q, (if q = p' then t else C q) = if q = p' then t else C q := fun _ => rfl
  refine ⟨fun q => if q = p' then t else C q, F.lt, ?_, ?_, ?_, ?_, ?_, ?_, ?_, ?_, ?_, ?_⟩
  · rintro x (rfl | hx)
    · exact hA
    · exact F.ra x hx
  · intro q x hq
    show x ∈ (if q = p' then t else C q) ↔ _
    rw [e0]
    by_cases e : q = p'
    · subst e
      rw [if_pos rfl, ht, F.mem q x hq]
      constructor
      · rintro ⟨⟨a, b, c⟩, d⟩; exact ⟨a, by rintro (k | k); exact d k; exact b k, c⟩
      · rintro ⟨a, b, c⟩; exact ⟨⟨a, fun k => b (.inr k), c⟩, fun k => b (.inl k)⟩
    · rw [if_neg e, F.mem q x hq]
      constructor
      · rintro ⟨a, b, c⟩
        refine ⟨a, ?_, c⟩
        rintro (k | k)
        · subst k; omega
        · exact b k
      · rintro ⟨a, b, c⟩; exact ⟨a, fun k => b (.inr k), c⟩
  · intro q hq
    show (if q = p' then t else C q).Nodup
    by_cases e : q = p'
    · rw [if_pos e]; exact (List.nodup_cons.1 hnd).2
    · rw [if_neg e]; exact F.nd q hq
  · intro q hq
    show Cyc st' (if q = p' then t else C q)
    by_cases e : q = p'
    · rw [if_pos e]
      exact (hc.leave hnd).congr (fun x _ => (sl x).2) (fun x _ => (sl x).1)
    · rw [if_neg e]
      have hout : ∀ x ∈ C q, x ∉ h :: t := fun x hx k => by
        have a := (F.mem q x hq).1 hx
        have b := (F.mem p' x hpA).1 ((hm x).1 k)
        omega
      refine (F.cyc q hq).congr (fun x hx => ?_) (fun x hx => ?_)
      · rw [(sl x).2, lv_out hc (hout x hx)]
      · rw [(sl x).1, lv_out hc (hout x hx)]
  · intro x hx hr
    rw [e0]; exact F.par x hx fun k => hr (.inr k)
  · intro q hq
    show ((if q = p' then t else C q) = [] ∧ _) ∨ ∃ c : Nat, _ ∧ c ∈ (if q = p' then t else C q)
    by_cases e : q = p'
    · subst e
      rw [if_pos rfl, s1]
      have hd := F.dg q hpA
      rw [← hl] at hd
      by_cases k : st q 4 - 1 = 0
      · rw [if_pos k]
        left
        refine ⟨?_, rfl⟩
        have : t.length = 0 := by simp at hd; omega
        exact List.length_eq_zero_iff.1 this
      · rw [if_neg k]
        right
        have htne : t ≠ [] := by
          rintro rfl
          simp at hd; omega
        by_cases k2 : st q 1 = (h : Nat)
        · rw [if_pos k2]
          cases t with
          | nil => exact absurd rfl htne
          | cons a u => exact ⟨a, hc.1, by simp⟩
        · rw [if_neg k2]
          rcases F.ch q hpA with ⟨k3, _⟩ | ⟨c, k3, k4⟩
          · rw [k3] at hmem; simp at hmem
          · exact ⟨c, k3, (ht c).2 ⟨k4, by rintro rfl; exact k2 k3⟩⟩
    · rw [if_neg e, s0 q e 1 (by omega)]; exact F.ch q hq
  · intro x q hx hr hq _
    rw [e0] at hq
    exact F.ord x q hx (fun k => hr (.inr k)) hq (hz x fun k => hr (.inl k))
  · intro q hq
    show _ = (((if q = p' then t else C q).length : Nat) : Int)
    by_cases e : q = p'
    · subst e; rw [if_pos rfl, s4, F.dg q hq, ← hl]; simp
    · rw [if_neg e, s0 q e 4 (by omega)]; exact F.dg q hq
  · intro q hq d
    refine Int.le_trans (cntP_le fun x _ => ?_) (F.cn q hq d)
    rintro ⟨a, b, c, e⟩
    have hxh : x ≠ h := fun k => b (.inl k)
    refine ⟨a, fun k => b (.inr k), by rw [e0] at c; exact c, ?_⟩
    rw [if_neg (hy x hxh)]
    rw [e5] at e
    by_cases k : x = p'
    · subst k; rw [s4, if_pos rfl] at e; omega
    · rw [s0 x k 4 (by omega), if_neg (by omega)] at e; exact e
  · intro x hx; rw [e5]; exact F.mrk x hx
/-- The parent is marked. -/
theorem FT.mark (F : FT n key A R (-1) y st C) {p : Nat} (hy : y = (p : Nat)) (hp : A p) (h5 : st p 5 = 0) (hs : ∀ x j, (x ≠ p ∨ j ≠ 5) → st' x j = st x j) (h5' : st' p 5 = 1) : FT n key A R (-1) (-1) st' C := by
  refine ⟨F.lt, F.ra, fun q x hq => ?_, F.nd, fun q hq => ?_, fun x hx hr => ?_, fun q hq => ?_, fun x q hx hr hq => ?_, fun q hq => ?_, fun q hq d => ?_, fun x hx => ?_⟩
  · rw [hs x 0 (.inr (by omega))]; exact F.mem q x hq
  · exact (F.cyc q hq).congr (fun x _ => hs x 3 (.inr (by omega))) (fun x _ => hs x 2 (.inr (by omega)))
  · rw [hs x 0 (.inr (by omega))]; exact F.par x hx hr
  · rw [hs q 1 (.inr (by omega))]; exact F.ch q hq
  · rw [hs x 0 (.inr (by omega))] at hq; exact F.ord x q hx hr hq
  · rw [hs q 4 (.inr (by omega))]; exact F.dg q hq
  · refine Int.le_trans (cntP_le fun x _ => ?_) (F.cn q hq d)
    rintro ⟨a, b, c, e⟩
    rw [hs x 0 (.inr (by omega))] at c
    rw [hs x 4 (.inr (by omega)), if_neg (by omega)] at e
    refine ⟨a, b, c, ?_⟩
    by_cases k : x = p
    · subst k; rw [if_pos (by omega)]; omega
    · rw [if_neg (by omega)]; rw [hs x 5 (.inl k)] at e; exact e
  · by_cases k : x = p
    · subst k; exact .inr h5'
    · rw [hs x 5 (.inl k)]; exact F.mrk x hx
end

end Go.Proofs.Ytdblngaacnpgmaa

namespace Go.Proofs.Ytdblngaacnpgmaa
open Go
open Classical
set_option linter.unusedVariables false

section
variable {n : Nat} {key : Nat → Int} {A R : Nat → Prop} {z y : Int} {st st' : Nat → Nat → Int} {C : Nat → List Nat}
/-- A top becomes the child of another of the same degree. -/
theorem FT.hang (F : FT n key A R (-1) (-1) st C) {a b : Nat} (ha : R a) (hb : R b) (hab : ahd key a b) (hd : st b 4 = st a 4)
    (s0 : ∀ x, x ≠ a → x ≠ b → ∀ j, j ≠ 2 ∧ j ≠ 3 → st' x j = st x j) (sa : st' a 0 = st a 0 ∧ st' a 5 = st a 5) (sa4 : st' a 4 = st a 4 + 1)
    (sb : st' b 0 = (a : Nat) ∧ st' b 1 = st b 1 ∧ st' b 4 = st b 4 ∧ st' b 5 = st b 5)
    (sc : (st a 1 = -1 ∧ st' a 1 = (b : Nat) ∧ st b 2 = (b : Nat) ∧ st b 3 = (b : Nat) ∧ (∀ x, st' x 2 = st x 2 ∧ st' x 3 = st x 3)) ∨
      (∃ c : Nat, st a 1 = c ∧ st' a 1 = c ∧ ∀ x, st' x 2 = jn st b c x 2 ∧ st' x 3 = jn st b c x 3)) :
    ∃ C', FT n key A (fun x => R x ∧ x ≠ b) (-1) (-1) st' C' := by
  have hA := F.ra a ha
  have hB := F.ra b hb
  have hne : a ≠ b := by rintro rfl; exact ahd_irr hab
  have hbC : ∀ p, A p → b ∉ C p := fun p hp k => ((F.mem p b hp).1 k).2.1 hb
  have haC : ∀ p, A p → a ∉ C p := fun p hp k => ((F.mem p a hp).1 k).2.1 ha
  -- the ring of a's children
  obtain ⟨L, hL1, hL2, hL3, hL4, hL5, hL6⟩ : ∃ L : List Nat, Cyc st' L ∧ L.Nodup ∧ (∀ x, x ∈ L ↔ x = b ∨ x ∈ C a) ∧ L.length = (C a).length + 1 ∧ (∃ c : Nat, st' a 1 = c ∧ c ∈ L) ∧
      ∀ p, A p → p ≠ a → ∀ x ∈ C p, st' x 2 = st x 2 ∧ st' x 3 = st x 3 := by
    rcases sc with ⟨h1, h2, h3, h4, h5⟩ | ⟨c, h1, h2, h3⟩
    · have hnil : C a = [] := by
        rcases F.ch a hA with ⟨k, _⟩ | ⟨c, k, _⟩
        · exact k
        · omega
      refine ⟨[b], Cyc.one (by rw [(h5 b).2]; exact h4) (by rw [(h5 b).1]; exact h3), by simp, fun x => by rw [hnil]; simp, by rw [hnil]; rfl, ⟨b, h2, by simp⟩, fun _ _ _ x _ => h5 x⟩
    · have hc : c ∈ C a := by
        rcases F.ch a hA with ⟨_, k⟩ | ⟨c', k, k2⟩
        · omega
        · have : c' = c := by omega
          exact this ▸ k2
      obtain ⟨t, k1, k2, k3, k4⟩ := (F.cyc a hA).from hc (F.nd a hA)
      have hbt : b ∉ c :: t := fun k => hbC a hA ((k3 b).1 k)
      refine ⟨c :: b :: t, (k1.join k2 hbt).congr (fun x _ => (h3 x).2) (fun x _ => (h3 x).1), ?_, fun x => ?_, ?_, ⟨c, h2, by simp⟩, ?_⟩
      · simp only [List.nodup_cons, List.mem_cons] at k2 hbt ⊢
        refine ⟨?_, fun k => hbt (.inr k), k2.2⟩
        rintro (k | k)
        · exact hbt (.inl k.symm)
        · exact k2.1 k
      · rw [← k3 x]; simp only [List.mem_cons]
        constructor
        · rintro (k | k | k)
          · exact .inr (.inl k)
          · exact .inl k
          · exact .inr (.inr k)
        · rintro (k | k | k)
          · exact .inr (.inl k)
          · exact .inl k
          · exact .inr (.inr k)
      · rw [← k4]; simp
      · intro p hp hpa x hx
        have hout : x ∉ c :: t := fun k => by
          have a1 := (F.mem p x hp).1 hx
          have a2 := (F.mem a x hA).1 ((k3 x).1 k)
          omega
        have hxb : x ≠ b := by rintro rfl; exact hbC p hp hx
        rw [(h3 x).1, (h3 x).2, jn_out k1 hout hxb, jn_out k1 hout hxb]
        exact ⟨rfl, rfl⟩
  have out : ∀ x, A x → ¬ (R x ∧ x ≠ b) → x = b ∨ (x ≠ b ∧ ¬ R x) := fun x _ h => by
    by_cases e : x = b
    · exact .inl e
    · exact .inr ⟨e, fun k => h ⟨k, e⟩⟩
  have e0 : ∀ x, x ≠ b → st' x 0 = st x 0 := fun x hx => by
    by_cases e : x = a
    · subst e; exact sa.1
    · exact s0 x e hx 0 (by omega)
  have e5 : ∀ x, st' x 5 = st x 5 := fun x => by
    by_cases e : x = a
    · subst e; exact sa.2
    · by_cases e2 : x = b
      · subst e2; exact sb.2.2.2
      · exact s0 x e e2 5 (by omega)
  have e4 : ∀ x, x ≠ a → st' x 4 = st x 4 := fun x hx => by
    by_cases e2 : x = b
    · subst e2; exact sb.2.2.1
    · exact s0 x hx e2 4 (by omega)
  refine ⟨fun q => if q = a then L else C q, F.lt, fun x hx => F.ra x hx.1, ?_, ?_, ?_, ?_, ?_, ?_, ?_, ?_, ?_⟩
  · intro p x hp
    show x ∈ (if p = a then L else C p) ↔ _
    by_cases e : p = a
    · subst e
      rw [if_pos rfl, hL3, F.mem p x hp]
      constructor
      · rintro (rfl | ⟨h1, h2, h3⟩)
        · exact ⟨hB, fun k => k.2 rfl, sb.1⟩
        · exact ⟨h1, fun k => h2 k.1, by rw [e0 x (by rintro rfl; exact h2 hb)]; exact h3⟩
      · rintro ⟨h1, h2, h3⟩
        rcases out x h1 h2 with k | ⟨k, k2⟩
        · exact .inl k
        · rw [e0 x k] at h3; exact .inr ⟨h1, k2, h3⟩
    · rw [if_neg e, F.mem p x hp]
      constructor
      · rintro ⟨h1, h2, h3⟩
        exact ⟨h1, fun k => h2 k.1, by rw [e0 x (by rintro rfl; exact h2 hb)]; exact h3⟩
      · rintro ⟨h1, h2, h3⟩
        rcases out x h1 h2 with k | ⟨k, k2⟩
        · subst k; exact absurd (Int.ofNat.inj (h3.symm.trans sb.1)) e
        · rw [e0 x k] at h3; exact ⟨h1, k2, h3⟩
  · intro p hp
    show (if p = a then L else C p).Nodup
    by_cases e : p = a
    · rw [if_pos e]; exact hL2
    · rw [if_neg e]; exact F.nd p hp
  · intro p hp
    show Cyc st' (if p = a then L else C p)
    by_cases e : p = a
    · rw [if_pos e]; exact hL1
    · rw [if_neg e]
      exact (F.cyc p hp).congr (fun x hx => (hL6 p hp e x hx).2) (fun x hx => (hL6 p hp e x hx).1)
  · intro x h1 h2
    rcases out x h1 h2 with k | ⟨k, k2⟩
    · subst k; exact ⟨a, sb.1, hA⟩
    · rw [e0 x k]; exact F.par x h1 k2
  · intro p hp
    show ((if p = a then L else C p) = [] ∧ _) ∨ ∃ c : Nat, _ ∧ c ∈ (if p = a then L else C p)
    by_cases e : p = a
    · subst e; rw [if_pos rfl]; exact .inr hL5
    · rw [if_neg e]
      have : st' p 1 = st p 1 := by
        by_cases e2 : p = b
        · subst e2; exact sb.2.1
        · exact s0 p e e2 1 (by omega)
      rw [this]; exact F.ch p hp
  · intro x p h1 h2 h3 _
    rcases out x h1 h2 with k | ⟨k, k2⟩
    · subst k
      have : p = a := by have := sb.1; omega
      subst this; exact hab
    · rw [e0 x k] at h3; exact F.ord x p h1 k2 h3 (by omega)
  · intro p hp
    show _ = (((if p = a then L else C p).length : Nat) : Int)
    by_cases e : p = a
    · subst e; rw [if_pos rfl, sa4, F.dg p hp, hL4]; omega
    · rw [if_neg e, e4 p e]; exact F.dg p hp
  · intro p hp d
    have val : ∀ x, A x → ¬ R x → st' x 4 + st' x 5 = st x 4 + st x 5 := fun x hx hr => by
      rw [e4 x (by rintro rfl; exact hr ha), e5]
    by_cases e : p = a
    · subst e
      by_cases hdl : ((C p).length : Int) ≤ d
      · have : cntP n (fun x => A x ∧ ¬ (R x ∧ x ≠ b) ∧ st' x 0 = (p : Nat) ∧ st' x 4 + st' x 5 + (if (x : Int) = -1 then 1 else 0) ≤ d) ≤ cntP n (fun x => A x ∧ ¬ R x ∧ st x 0 = (p : Nat)) + 1 :=
          cntP_le1 (a := b) fun x _ => by
            rintro ⟨h1, h2, h3, _⟩
            rcases out x h1 h2 with k | ⟨k, k2⟩
            · exact .inl k
            · rw [e0 x k] at h3; exact .inr ⟨h1, k2, h3⟩
        rw [F.len hp] at this
        omega
      · refine Int.le_trans (cntP_le fun x _ => ?_) (F.cn p hp d)
        rintro ⟨h1, h2, h3, h4⟩
        rcases out x h1 h2 with k | ⟨k, k2⟩
        · subst k
          exfalso
          rw [sb.2.2.1, sb.2.2.2, hd, F.dg p hp, if_neg (by omega)] at h4
          have := F.mrk x hB
          omega
        · rw [e0 x k] at h3
          rw [val x h1 k2] at h4
          exact ⟨h1, k2, h3, h4⟩
    · refine Int.le_trans (cntP_le fun x _ => ?_) (F.cn p hp d)
      rintro ⟨h1, h2, h3, h4⟩
      rcases out x h1 h2 with k | ⟨k, k2⟩
      · subst k; exact absurd (Int.ofNat.inj (h3.symm.trans sb.1)) e
      · rw [e0 x k] at h3
        rw [val x h1 k2] at h4
        exact ⟨h1, k2, h3, h4⟩
  · intro x hx; rw [e5]; exact F.mrk x hx
end

/-- The ring of the tops, and the best of them. -/
structure RI (key : Nat → Int) (st : Nat → Nat → Int) (L : List Nat) (best : Int) : Prop where
  nd : L.Nodup
  cyc : Cyc st L
  r0 : ∀ x ∈ L, st x 0 = -1
  bst : (L = [] ∧ best = -1) ∨ ∃ b : Nat, best = b ∧ b ∈ L ∧ ∀ v ∈ L, v = b ∨ ahd key b v

end Go.Proofs.Ytdblngaacnpgmaa

namespace Go.Proofs.Ytdblngaacnpgmaa
open Go
set_option linter.unusedVariables false
set_option linter.unusedSimpArgs false

/-- A cell of the links. -/
def fcl (st : Nat → Nat → Int) (p : Nat) : Value := if p % 6 = 5 then .bool (decide (st (p / 6) 5 = 1)) else .int .i64 (st (p / 6) (p % 6))
theorem add_2 (b i j : Nat) : ((bk b).add i).add j = (bk b).add (i + j) := by rw [bk_add, bk_add2, bk_add]
theorem fcl_i {st : Nat → Nat → Int} {x k : Nat} (hk : k < 5) : fcl st (x * 6 + k) = .int .i64 (st x k) := by
  unfold fcl
  rw [show (x * 6 + k) % 6 = k by omega, show (x * 6 + k) / 6 = x by omega, if_neg (by omega)]
theorem fcl_b {st : Nat → Nat → Int} {x : Nat} : fcl st (x * 6 + 5) = .bool (decide (st x 5 = 1)) := by
  unfold fcl
  rw [show (x * 6 + 5) % 6 = 5 by omega, show (x * 6 + 5) / 6 = x by omega, if_pos rfl]
theorem fcl_setI {st : Nat → Nat → Int} {x k : Nat} {v : Int} (hk : k < 5) : updV (fcl st) (x * 6 + k) (.int .i64 v) = fcl (upd2 st x k v) := by
  funext p
  unfold updV
  by_cases e : p = x * 6 + k
  · subst e; rw [if_pos rfl, fcl_i hk, upd2_at]
  · rw [if_neg e]
    unfold fcl
    by_cases h5 : p % 6 = 5
    · rw [if_pos h5, if_pos h5, upd2_j (by omega)]
    · rw [if_neg h5, if_neg h5]
      unfold upd2
      rw [if_neg (by omega)]
theorem fcl_setB {st : Nat → Nat → Int} {x : Nat} {t : Bool} : updV (fcl st) (x * 6 + 5) (.bool t) = fcl (upd2 st x 5 (if t then 1 else 0)) := by
  funext p
  unfold updV
  by_cases e : p = x * 6 + 5
  · subst e; rw [if_pos rfl, fcl_b, upd2_at]; cases t <;> rfl
  · rw [if_neg e]
    unfold fcl
    by_cases h5 : p % 6 = 5
    · rw [if_pos h5, if_pos h5, upd2_v (by omega)]
    · rw [if_neg h5, if_neg h5, upd2_j (by omega)]

section
variable {own own' : Own} {h h' : H} {i b n : Nat} {st : Nat → Nat → Int}
abbrev HL (own : Own) (h : H) (i b n : Nat) (st : Nat → Nat → Int) : Prop := B1 own h i b (va (n * 6) (fcl st))
theorem HL.ix {x c : Nat} {K : Addr → Prop} (hx : x < n) (k : K ((bk b).add (x * 6))) : ixS (.slice (some (bk b)) n c) (x : Int) 6 K := nx hx k
theorem HL.rd {x k : Nat} (L : HL own h i b n st) (hx : x < n) (hk : k < 5) : hcell h (((bk b).add (x * 6)).add k) = some (.int .i64 (st x k)) := by
  rw [add_2]
  refine L.ld ?_
  rw [va_get (by omega), fcl_i hk]
theorem HL.rd5 {x : Nat} (L : HL own h i b n st) (hx : x < n) : hcell h (((bk b).add (x * 6)).add 5) = some (.bool (decide (st x 5 = 1))) := by
  rw [add_2]
  refine L.ld ?_
  rw [va_get (by omega), fcl_b]
theorem HL.ldI {x k : Nat} {K : Int → Prop} (L : HL own h i b n st) (hx : x < n) (hk : k < 5) (q : K (st x k)) : ldI h (((bk b).add (x * 6)).add k) .i64 K := ⟨_, L.rd hx hk, q⟩
theorem HL.ldB {x : Nat} {K : Bool → Prop} (L : HL own h i b n st) (hx : x < n) (q : K (decide (st x 5 = 1))) : ldB h (((bk b).add (x * 6)).add 5) K := ⟨_, L.rd5 hx, q⟩
theorem HL.stB {x : Nat} {t : Bool} {K : H → Prop} (L : HL own h i b n st) (hx : x < n)
    (q : ∀ g, Fm [i] own h own g → HL own g i b n (upd2 st x 5 (if t then 1 else 0)) → K g) : stC h (((bk b).add (x * 6)).add 5) (.bool t) K := by
  rw [add_2]
  refine L.st (by rw [va_length]; omega) fun g F L' => q g F ?_
  rw [va_set, fcl_setB] at L'
  exact L'

/-- A queue of kind Fibonacci: owners 31 (the queue), 32 (its engine), 33 (keys), 34 (held), 35 (links). -/
structure HQ (own : Own) (h : H) (bq bf bl n : Nat) (key : Nat → Int) (held : Nat → Bool) (cnt last best : Int) (st : Nat → Nat → Int) : Prop where
  q : ∃ vk vh, B1 own h 31 bq [vk, vh, .iface 143 (.pointer (some (bk bf))), .int .i64 cnt, .int .i64 3, .int .i64 last] ∧ S1 own h 33 vk (ints n key) ∧ S1 own h 34 vh (bools n held)
  f : B1 own h 32 bf [.pointer (some (bk bq)), .int .i64 best, slV bl n]
  l : HL own h 35 bl n st
variable {bq bf bl : Nat} {key : Nat → Int} {held : Nat → Bool} {cnt last best : Int}
theorem HQ.fm {M : List Nat} (Q : HQ own h bq bf bl n key held cnt last best st) (F : Fm M own h own' h') (hM : ∀ j, j ∈ M → j < 31 ∨ 35 < j) : HQ own' h' bq bf bl n key held cnt last best st := by
  obtain ⟨vk, vh, k1, k2, k3⟩ := Q.q
  have no : ∀ j, 31 ≤ j → j ≤ 35 → j ∉ M := fun j h1 h2 k => by have := hM j k; omega
  exact ⟨⟨vk, vh, k1.fm F (no _ (by omega) (by omega)), k2.fm F (no _ (by omega) (by omega)), k3.fm F (no _ (by omega) (by omega))⟩, Q.f.fm F (no _ (by omega) (by omega)), Q.l.fm F (no _ (by omega) (by omega))⟩
theorem HQ.ext (Q : HQ own h bq bf bl n key held cnt last best st) (x : Ext h h') : HQ own h' bq bf bl n key held cnt last best st := Q.fm (M := []) (Fm.of_ext x) (by simp)
theorem HQ.nw {c j : Nat} (Q : HQ own h bq bf bl n key held cnt last best st) (x : Ext h h') (hb : h c = none) : HQ (own1 own c j) h' bq bf bl n key held cnt last best st := Q.fm (M := []) (Fm.new x hb) (by simp)
/-- The links changed. -/
theorem HQ.ln {st' : Nat → Nat → Int} {g : H} (Q : HQ own h bq bf bl n key held cnt last best st) (F : Fm [35] own h own g) (L : HL own g 35 bl n st') : HQ own g bq bf bl n key held cnt last best st' := by
  obtain ⟨vk, vh, k1, k2, k3⟩ := Q.q
  exact ⟨⟨vk, vh, k1.fm F (by simp), k2.fm F (by simp), k3.fm F (by simp)⟩, Q.f.fm F (by simp), L⟩
theorem HQ.s5 {x : Nat} {t : Bool} {K : H → Prop} (Q : HQ own h bq bf bl n key held cnt last best st) (hx : x < n)
    (q : ∀ g, Fm [35] own h own g → HQ own g bq bf bl n key held cnt last best (upd2 st x 5 (if t then 1 else 0)) → K g) : stC h (((bk bl).add (x * 6)).add 5) (.bool t) K :=
  Q.l.stB hx fun g F L => q g F (Q.ln F L)
/-- The engine's best. -/
theorem HQ.sb {x : Int} {K : H → Prop} (Q : HQ own h bq bf bl n key held cnt last best st)
    (q : ∀ g, Fm [32] own h own g → HQ own g bq bf bl n key held cnt last x st → K g) : stC h ((bk bf).add 1) (.int .i64 x) K :=
  Q.f.st (j := 1) (by simp) fun g F B => q g F (by
    obtain ⟨vk, vh, k1, k2, k3⟩ := Q.q
    exact ⟨⟨vk, vh, k1.fm F (by simp), k2.fm F (by simp), k3.fm F (by simp)⟩, B, Q.l.fm F (by simp)⟩)

end

end Go.Proofs.Ytdblngaacnpgmaa

namespace Go.Proofs.Ytdblngaacnpgmaa
open Go
set_option linter.unusedVariables false
set_option linter.unusedSimpArgs false

section
variable {own own' : Own} {h h' : H} {n : Nat} {st : Nat → Nat → Int}
variable {bq bf bl : Nat} {key : Nat → Int} {held : Nat → Bool} {cnt last best : Int}
theorem HL.put {i b x : Nat} {a0 a1 a2 a3 a4 : Int} {t : Bool} {K : H → Prop} (L : HL own h i b n st) (hx : x < n)
    (q : ∀ g, Fm [i] own h own g → HL own g i b n (upd2 (upd2 (upd2 (upd2 (upd2 (upd2 st x 0 a0) x 1 a1) x 2 a2) x 3 a3) x 4 a4) x 5 (if t then 1 else 0)) → K g) :
    stN h ((bk b).add (x * 6)) [.int .i64 a0, .int .i64 a1, .int .i64 a2, .int .i64 a3, .int .i64 a4, .bool t] 6 K := by
  obtain ⟨e, o, k⟩ := L
  have hlen : (va (n * 6) (fcl st)).length = n * 6 := va_length _ _
  rw [bk_add]
  refine ⟨rfl, by simp [Value.oneCell'], ⟨_, _, k, rfl, by simp only [List.size_toArray, hlen]; omega⟩, q _ ?_ ⟨e, o, ?_⟩⟩
  · refine Fm.kp (b := b) ?_ e ⟨.cells (setR ⟨va (n * 6) (fcl st)⟩ (x * 6) _) o (0, 0), by unfold hset; rw [if_pos rfl, k]; rfl⟩
    intro j ob hj hh
    unfold hset
    rw [if_neg hj]; exact hh
  · unfold hset
    rw [if_pos rfl, k]
    simp only [Option.map_some, setR, List.setIfInBounds_toArray, va_set, Nat.add_assoc]
    have e0 : updV (fcl st) (x * 6) (.int .i64 a0) = fcl (upd2 st x 0 a0) := fcl_setI (k := 0) (by omega)
    have e1 := fcl_setI (st := upd2 st x 0 a0) (x := x) (k := 1) (v := a1) (by omega)
    have e2 := fcl_setI (st := upd2 (upd2 st x 0 a0) x 1 a1) (x := x) (k := 2) (v := a2) (by omega)
    have e3 := fcl_setI (st := upd2 (upd2 (upd2 st x 0 a0) x 1 a1) x 2 a2) (x := x) (k := 3) (v := a3) (by omega)
    have e4 := fcl_setI (st := upd2 (upd2 (upd2 (upd2 st x 0 a0) x 1 a1) x 2 a2) x 3 a3) (x := x) (k := 4) (v := a4) (by omega)
    have e5 := fcl_setB (st := upd2 (upd2 (upd2 (upd2 (upd2 st x 0 a0) x 1 a1) x 2 a2) x 3 a3) x 4 a4) (x := x) (t := t)
    rw [e0, e1, e2, e3, e4, e5]

end

end Go.Proofs.Ytdblngaacnpgmaa

namespace Go.Proofs.Ytdblngaacnpgmaa
open Go
set_option linter.unusedVariables false
set_option linter.unusedSimpArgs false

theorem RI.congr {key : Nat → Int} {st st' : Nat → Nat → Int} {L : List Nat} {best : Int} (I : RI key st L best) (h : ∀ x ∈ L, st' x 0 = st x 0 ∧ st' x 2 = st x 2 ∧ st' x 3 = st x 3) : RI key st' L best :=
  ⟨I.nd, I.cyc.congr (fun x hx => (h x hx).2.2) (fun x hx => (h x hx).2.1), fun x hx => by rw [(h x hx).1]; exact I.r0 x hx, I.bst⟩

/-- The heap, whole. -/
structure FH (n : Nat) (key : Nat → Int) (A : Nat → Prop) (st : Nat → Nat → Int) (best : Int) (L : List Nat) (C : Nat → List Nat) : Prop where
  ft : FT n key A (fun x => x ∈ L) (-1) (-1) st C
  ri : RI key st L best

end Go.Proofs.Ytdblngaacnpgmaa

namespace Go.Proofs.Ytdblngaacnpgmaa
open Go
open Classical
set_option linter.unusedVariables false
set_option linter.unusedSimpArgs false

theorem FT.uset {n : Nat} {key : Nat → Int} {A A' R R' : Nat → Prop} {z y : Int} {st : Nat → Nat → Int} {C : Nat → List Nat} (Ft : FT n key A R z y st C) (hA : ∀ x, A' x ↔ A x) (hR : ∀ x, R' x ↔ R x) : FT n key A' R' z y st C := by
  have e1 : A' = A := by funext x; exact propext (hA x)
  have e2 : R' = R := by funext x; exact propext (hR x)
  rw [e1, e2]; exact Ft

end Go.Proofs.Ytdblngaacnpgmaa

namespace Go.Proofs.Ytdblngaacnpgmaa
open Go
open Classical
set_option linter.unusedVariables false
set_option linter.unusedSimpArgs false

/-- The rest behind the first. -/
theorem S1.tail {own : Own} {h : H} {i : Nat} {v x : Value} {vs : List Value} {K : Option Addr → Nat → Nat → Prop} (s : S1 own h i v (x :: vs))
    (k : ∀ (a : Option Addr) (c : Nat), vs.length + 1 ≤ c → RS h (sliceV a c 1 ((vs.length + 1 : Nat) : Int) 1) vs → K a (vs.length + 1) c) : slcP v K := by
  rcases s with ⟨e, _⟩ | ⟨b, hb, c, e, zs, rfl, h2, h3⟩
  · cases e
  have hcc : vs.length + 1 ≤ c := by simp at h3; omega
  refine k (some (bk b)) c hcc ?_
  unfold sliceV
  refine ⟨_, _, by rw [show ((vs.length + 1 : Nat) : Int).toNat - (1 : Int).toNat = vs.length by omega], fun j y hj => ?_⟩
  have hj2 := (List.getElem?_eq_some_iff.1 hj).1
  rw [if_neg (show ¬ c = (1 : Int).toNat by simp; omega)]
  refine ⟨_, rfl, ?_⟩
  rw [show (1 : Int).toNat * 1 = 1 from rfl, Nat.mul_one, add_2, bk_add, hcell_at h2, List.getElem?_toArray, List.getElem?_append_left (by simp; omega), Nat.add_comm]
  simpa using hj

end Go.Proofs.Ytdblngaacnpgmaa

namespace Go.Proofs.Ytdblngaacnpgmaa
open Go
open Classical
set_option linter.unusedVariables false
set_option linter.unusedSimpArgs false

abbrev heldP (n : Nat) (held : Nat → Bool) (v : Nat) : Prop := v < n ∧ held v = true
/-- A queue: who is held, with which keys. -/
def FQ (own : Own) (h : H) (bq n : Nat) (key : Nat → Int) (held : Nat → Bool) : Prop :=
  ∃ bf bl last best st L C, HQ own h bq bf bl n key held (cntP n (heldP n held)) last best st ∧ FH n key (heldP n held) st best L C
section
variable {own own' : Own} {h h' : H} {n bq : Nat} {key : Nat → Int} {held : Nat → Bool}
theorem FQ.fm {M : List Nat} (Q : FQ own h bq n key held) (F : Fm M own h own' h') (hM : ∀ j, j ∈ M → j < 31 ∨ 35 < j) : FQ own' h' bq n key held := by
  obtain ⟨bf, bl, last, best, st, L, C, Q, G⟩ := Q
  exact ⟨bf, bl, last, best, st, L, C, Q.fm F hM, G⟩
theorem B1.ld0 {i b j : Nat} {vs : List Value} {v : Value} (B : B1 own h i b vs) (hi : vs[j]? = some v) : hcell h (((bk b).add 0).add j) = some v := by rw [add_zero']; exact B.ld hi
theorem FH.rekey {key' : Nat → Int} {A : Nat → Prop} {st : Nat → Nat → Int} {best : Int} {L : List Nat} {C : Nat → List Nat} (G : FH n key A st best L C) (hk : ∀ x, A x → key' x = key x) : FH n key' A st best L C := by
  have e : ∀ x y, A x → A y → ahd key x y → ahd key' x y := fun x y hx hy h => by unfold ahd at *; rw [hk x hx, hk y hy]; exact h
  refine ⟨G.ft.rekey fun x hx hr p hp _ ho => ?_, G.ri.nd, G.ri.cyc, G.ri.r0, ?_⟩
  · obtain ⟨p', e1, e2⟩ := G.ft.par x hx hr
    have : p' = p := by omega
    subst this
    exact e _ _ e2 hx ho
  · rcases G.ri.bst with h | ⟨b, h1, h2, h3⟩
    · exact .inl h
    · refine .inr ⟨b, h1, h2, fun v hv => ?_⟩
      rcases h3 v hv with k | k
      · exact .inl k
      · exact .inr (e _ _ (G.ft.ra b h2) (G.ft.ra v hv) k)
theorem FH.uset {A A' : Nat → Prop} {st : Nat → Nat → Int} {best : Int} {L : List Nat} {C : Nat → List Nat} (G : FH n key A st best L C) (h : ∀ x, A' x ↔ A x) : FH n key A' st best L C :=
  ⟨G.ft.uset h fun _ => Iff.rfl, G.ri⟩

end

end Go.Proofs.Ytdblngaacnpgmaa

namespace Go.Proofs.Ytdblngaacnpgmaa
open Go
set_option linter.unusedVariables false
set_option linter.unusedSimpArgs false

/-- What each node still has too much, when x goes along an arc. -/
def exS (ex : Nat → Int) (a b : Nat) (x : Int) : Nat → Int := fun v => ex v - (if a = v then x else 0) + (if b = v then x else 0)
/-- The net of mincost in the heap: owners 1 from, 2 to, 3 room, 4 cost, 5 out, 6 extra, 7 pot, 8 the struct, 40 + v (out of v). -/
structure MN (own : Own) (h : H) (bn n m : Nat) (fr to : Nat → Nat) (room cost ex pot : Nat → Int) : Prop where
  q : ∃ vf vt vr vc vo vx vp outs, B1 own h 8 bn [vf, vt, vr, vc, vo, vx, vp] ∧ S1 own h 1 vf (ints (2 * m) fun a => (tlA fr to a : Nat)) ∧ S1 own h 2 vt (ints (2 * m) fun a => (hdA fr to a : Nat)) ∧
    S1 own h 3 vr (ints (2 * m) room) ∧ S1 own h 4 vc (ints (2 * m) cost) ∧ S1 own h 5 vo (va n outs) ∧ S1 own h 6 vx (ints n ex) ∧ S1 own h 7 vp (ints n pot) ∧ ∀ v, v < n → S1 own h (40 + v) (outs v) (natV (arcsL fr to m v))
section
variable {own own' : Own} {h h' : H} {bn n m : Nat} {fr to : Nat → Nat} {room cost ex pot : Nat → Int} {M : List Nat}
theorem MN.fm (N : MN own h bn n m fr to room cost ex pot) (F : Fm M own h own' h') (hM : ∀ i, i ∈ M → 8 < i ∧ i < 40) : MN own' h' bn n m fr to room cost ex pot := by
  obtain ⟨vf, vt, vr, vc, vo, vx, vp, outs, k8, k1, k2, k3, k4, k5, k6, k7, ko⟩ := N.q
  have no : ∀ j, (j ≤ 8 ∨ 40 ≤ j) → j ∉ M := fun j hj hm => by have := hM j hm; omega
  exact ⟨vf, vt, vr, vc, vo, vx, vp, outs, k8.fm F (no _ (by omega)), k1.fm F (no _ (by omega)), k2.fm F (no _ (by omega)), k3.fm F (no _ (by omega)), k4.fm F (no _ (by omega)), k5.fm F (no _ (by omega)),
    k6.fm F (no _ (by omega)), k7.fm F (no _ (by omega)), fun v hv => (ko v hv).fm F (no _ (by omega))⟩
theorem MN.ext (N : MN own h bn n m fr to room cost ex pot) (x : Ext h h') : MN own h' bn n m fr to room cost ex pot := N.fm (M := []) (Fm.of_ext x) (by simp)
theorem MN.nw {b i : Nat} (N : MN own h bn n m fr to room cost ex pot) (x : Ext h h') (hb : h b = none) : MN (own1 own b i) h' bn n m fr to room cost ex pot := N.fm (M := []) (Fm.new x hb) (by simp)

end

end Go.Proofs.Ytdblngaacnpgmaa

namespace Go.Proofs.Ytdblngaacnpgmaa
open Go
set_option linter.unusedVariables false
set_option linter.unusedSimpArgs false

/-- An arc's cost by the potentials. -/
def redC (fr to : Nat → Nat) (cost pot : Nat → Int) (a : Nat) : Int := cost a + pot (tlA fr to a) - pot (hdA fr to a)
end Go.Proofs.Ytdblngaacnpgmaa

namespace Go.Proofs.Ytdblngaacnpgmaa
open Go
set_option linter.unusedVariables false
set_option linter.unusedSimpArgs false

section
variable {own own' : Own} {h h' : H} {i : Nat}
/-- The last one gone: v[:len(v)-1]. -/
theorem S1.pop {v x : Value} {xs : List Value} (s : S1 own h i v (xs ++ [x])) :
    ∃ b c, v = .slice (some (bk b)) (xs.length + 1) c ∧ xs.length + 1 ≤ c ∧ S1 own h i (sliceV (some (bk b)) c 0 (xs.length : Int) 1) xs := by
  rcases s with ⟨e, _⟩ | ⟨b, hb, c, e, zs, rfl, h2, h3⟩
  · simp at e
  · simp only [List.length_append, List.length_cons, List.length_nil] at h3 ⊢
    refine ⟨b, c, rfl, by omega, .inr ⟨b, hb, c, e, x :: zs, ?_, by simpa using h2, by simp; omega⟩⟩
    unfold sliceV
    rw [if_neg (show ¬ c = (0 : Int).toNat by simp; omega)]
    simp [bk, Addr.add]
/-- How many are not marked. -/
noncomputable def unm (n : Nat) (sd : Nat → Bool) : Int := cntP n fun v => sd v = false
theorem unm_set {n : Nat} {sd : Nat → Bool} {v : Nat} (hv : v < n) (h : sd v = false) : unm n sd = unm n (updB sd v true) + 1 := by
  unfold unm
  rw [← cntP_add (a := v) (P := fun w => updB sd v true w = false) hv (by unfold updB; simp)]
  refine cntP_congr fun w hw => ?_
  unfold updB
  by_cases e : w = v
  · subst e; simp [h]
  · simp [e]
theorem updB_mono {sd : Nat → Bool} {v w : Nat} (h : sd w = true) : updB sd v true w = true := by
  unfold updB; split <;> simp [h]
end

end Go.Proofs.Ytdblngaacnpgmaa

namespace Go.Proofs.Ytdblngaacnpgmaa
open Go
set_option linter.unusedVariables false
set_option linter.unusedSimpArgs false

/-- A way back, along arcs with room: from y 0 to y L. -/
structure WayP (n m : Nat) (fr to : Nat → Nat) (room via : Nat → Int) (y : Nat → Nat) (L : Nat) : Prop where
  lt : ∀ s, s ≤ L → y s < n
  arc : ∀ s, s < L → ∃ a : Nat, via (y s) = a ∧ a < 2 * m ∧ hdA fr to a = y s ∧ tlA fr to a = y (s + 1) ∧ 0 < room a
  stop : via (y L) < 0
  inj : ∀ s t, s < t → t ≤ L → y s ≠ y t

end Go.Proofs.Ytdblngaacnpgmaa

namespace Go.Proofs.Ytdblngaacnpgmaa
open Go
open Classical
set_option linter.unusedVariables false

abbrev farI : Int := 4611686018427387904
/-- Dijkstra under way: D has come out in the order rk, k of them; Cb bounds the costs. -/
structure DjP (n m : Nat) (fr to : Nat → Nat) (room cost ex pot : Nat → Int) (D : Nat → Prop) (rk : Nat → Nat) (k : Nat) (dist via : Nat → Int) : Prop where
  pos : ∀ v, v < n → 0 ≤ dist v ∧ dist v ≤ farI
  src : ∀ v, v < n → 0 < ex v → dist v = 0
  dn : ∀ v, D v → v < n ∧ dist v < farI ∧ rk v < k
  arc : ∀ v, v < n → dist v < farI → (via v = -1 ∧ 0 < ex v) ∨ ∃ a : Nat, via v = a ∧ a < 2 * m ∧ hdA fr to a = v ∧ 0 < room a ∧ D (tlA fr to a) ∧ dist v = dist (tlA fr to a) + redC fr to cost pot a ∧ (D v → rk (tlA fr to a) < rk v)
  mono : ∀ u v, D u → v < n → ¬ D v → dist u ≤ dist v
  bd : ∀ v, v < n → dist v < farI → dist v + pot v ≤ k * 1048576
  cnt : cntP n D = k
section
variable {n m : Nat} {fr to : Nat → Nat} {room cost ex pot : Nat → Int} {D : Nat → Prop} {rk : Nat → Nat} {k : Nat} {dist via : Nat → Int}
/-- The nearest comes out. -/
theorem DjP.out (J : DjP n m fr to room cost ex pot D rk k dist via) {v : Nat} (hv : v < n) (hD : ¬ D v) (hf : dist v < farI) (hmin : ∀ w, w < n → ¬ D w → dist v ≤ dist w) :
    DjP n m fr to room cost ex pot (fun w => w = v ∨ D w) (updN rk v k) (k + 1) dist via := by
  have ne : ∀ w, D w → w ≠ v := fun w hw e => hD (e ▸ hw)
  refine ⟨J.pos, J.src, ?_, ?_, ?_, ?_, ?_⟩
  · rintro w (rfl | hw)
    · exact ⟨hv, hf, by rw [updN_at]; omega⟩
    · obtain ⟨a, b, c⟩ := J.dn w hw
      exact ⟨a, b, by rw [updN_ne (ne w hw)]; omega⟩
  · intro w hw hwf
    rcases J.arc w hw hwf with h | ⟨a, h1, h2, h3, h4, h5, h6, h7⟩
    · exact .inl h
    · refine .inr ⟨a, h1, h2, h3, h4, .inr h5, h6, ?_⟩
      rw [updN_ne (ne _ h5)]
      rintro (rfl | hDw)
      · rw [updN_at]; exact (J.dn _ h5).2.2
      · rw [updN_ne (ne w hDw)]; exact h7 hDw
  · rintro u w (rfl | hu) hw hn
    · exact hmin w hw fun h => hn (.inr h)
    · exact J.mono u w hu hw fun h => hn (.inr h)
  · intro w hw hwf
    have := J.bd w hw hwf
    have e : ((k + 1 : Nat) : Int) * 1048576 = k * 1048576 + 1048576 := by omega
    omega
  · rw [cntP_add (P := D) hv hD, J.cnt]; omega
end

/-- What Dijkstra ends with. -/
def mnd (dist : Nat → Int) (f v : Nat) : Int := if dist f < dist v then dist f else dist v
structure DjE (n m : Nat) (fr to : Nat → Nat) (room cost ex pot : Nat → Int) (dist via : Nat → Int) (fnd : Int) : Prop where
  pos : ∀ v, v < n → 0 ≤ dist v ∧ dist v ≤ farI
  src : ∀ v, v < n → 0 < ex v → dist v = 0
  no : fnd < 0 → ∀ u v, u < n → 0 < ex u → Rch (ArS m fr to room) u v → 0 ≤ ex v
  yes : 0 ≤ fnd → ∃ f : Nat, fnd = f ∧ f < n ∧ ex f < 0 ∧ dist f + pot f ≤ n * 1048576 ∧ (∀ w, w < n → ex w < 0 → dist f ≤ dist w) ∧
    (∀ a, a < 2 * m → 0 < room a → 0 ≤ redC fr to cost (fun v => pot v + mnd dist f v) a) ∧
    ∃ y L, y 0 = f ∧ WayP n m fr to room via y L ∧ 0 < ex (y L) ∧ ∀ s, s < L → ∀ a : Nat, via (y s) = a → redC fr to cost (fun v => pot v + mnd dist f v) a = 0
/-- Who was found. -/
def FndP (n : Nat) (ex : Nat → Int) (D : Nat → Prop) (dist : Nat → Int) (fnd : Int) : Prop :=
  (fnd < 0 ∧ ∀ v, D v → 0 ≤ ex v) ∨ ∃ f : Nat, fnd = f ∧ f < n ∧ D f ∧ ex f < 0 ∧ ∀ w, w < n → ex w < 0 → dist f ≤ dist w
section
variable {n m : Nat} {fr to : Nat → Nat} {room cost ex pot : Nat → Int} {D : Nat → Prop} {rk : Nat → Nat} {k : Nat} {dist via : Nat → Int} {fnd : Int}
theorem DjP.way (J : DjP n m fr to room cost ex pot D rk k dist via) (hc : ∀ a, a < 2 * m → 0 < room a → 0 ≤ redC fr to cost pot a) : ∀ (q u : Nat), D u → rk u < q →
    ∃ (y : Nat → Nat) (L : Nat), y 0 = u ∧ WayP n m fr to room via y L ∧ 0 < ex (y L) ∧ (∀ s, s ≤ L → D (y s) ∧ rk (y s) ≤ rk u ∧ dist (y s) ≤ dist u) ∧
      ∀ s, s < L → ∀ a : Nat, via (y s) = a → tlA fr to a = y (s + 1) ∧ hdA fr to a = y s ∧ dist (y s) = dist (y (s + 1)) + redC fr to cost pot a := by
  intro q
  induction q with
  | zero => intro u _ h; omega
  | succ q ih =>
    intro u hu hr
    have du := J.dn u hu
    rcases J.arc u du.1 du.2.1 with ⟨h1, h2⟩ | ⟨a, h1, h2, h3, h4, h5, h6, h7⟩
    · refine ⟨fun _ => u, 0, rfl, ⟨fun _ _ => du.1, fun s hs => by omega, by rw [h1]; omega, fun s t h h' => by omega⟩, h2, fun s _ => ⟨hu, Nat.le_refl _, Int.le_refl _⟩, fun s hs => by omega⟩
    · have h7 := h7 hu
      obtain ⟨y, L, y0, W, w2, w3, w4⟩ := ih (tlA fr to a) h5 (by omega)
      have hca := hc a h2 h4
      let z : Nat → Nat := fun s => if s = 0 then u else y (s - 1)
      have z0 : z 0 = u := rfl
      have zs : ∀ s, z (s + 1) = y s := fun s => rfl
      have z1 : ∀ s, s ≠ 0 → z s = y (s - 1) := fun s hs => if_neg hs
      refine ⟨z, L + 1, rfl, ⟨fun s hs => ?_, fun s hs => ?_, by rw [zs]; exact W.stop, fun s t hst ht => ?_⟩, by rw [zs]; exact w2, fun s hs => ?_, fun s hs b hb => ?_⟩
      · by_cases e : s = 0
        · subst e; exact du.1
        · rw [z1 s e]; exact W.lt _ (by omega)
      · by_cases e : s = 0
        · subst e
          exact ⟨a, h1, h2, h3, by rw [zs, y0], h4⟩
        · rw [z1 s e, zs]
          have := W.arc (s - 1) (by omega)
          rwa [show s - 1 + 1 = s by omega] at this
      · rw [z1 t (by omega)]
        by_cases e : s = 0
        · subst e
          rw [z0]
          intro e
          have := w3 (t - 1) (by omega)
          rw [← e] at this; omega
        · rw [z1 s e]
          exact W.inj _ _ (by omega) (by omega)
      · by_cases e : s = 0
        · subst e; exact ⟨hu, Nat.le_refl _, Int.le_refl _⟩
        · rw [z1 s e]
          have := w3 (s - 1) (by omega)
          exact ⟨this.1, by omega, by omega⟩
      · by_cases e : s = 0
        · subst e
          rw [z0] at hb ⊢
          rw [zs, y0]
          have : b = a := by omega
          subst this
          exact ⟨rfl, h3, h6⟩
        · rw [z1 s e] at hb ⊢
          rw [zs]
          have := w4 (s - 1) (by omega) b hb
          rwa [show s - 1 + 1 = s by omega] at this
theorem DjP.fin (J : DjP n m fr to room cost ex pot D rk k dist via) (hc : ∀ a, a < 2 * m → 0 < room a → 0 ≤ redC fr to cost pot a) (hn : ∀ i, i < m → fr i < n ∧ to i < n)
    (all : ∀ v, v < n → dist v < farI → D v) (cl : ∀ a, a < 2 * m → 0 < room a → D (tlA fr to a) → dist (hdA fr to a) ≤ dist (tlA fr to a) + redC fr to cost pot a)
    (bdc : ∀ a, a < 2 * m → redC fr to cost pot a ≤ 4294967296) (hd2 : ∀ v, D v → dist v ≤ 1152921504606846976) (F : FndP n ex D dist fnd) : DjE n m fr to room cost ex pot dist via fnd := by
  refine ⟨J.pos, J.src, ?_, ?_⟩
  · intro hf u v hu hx hr
    rcases F with ⟨_, F⟩ | ⟨f, e, _⟩
    · refine F v (hr.closed (C := D) (all u hu ?_) fun x w hx hxw => ?_)
      · rw [J.src u hu hx]; decide
      · obtain ⟨a, a1, a2, a3, a4⟩ := hxw
        rw [← a2] at hx
        have h1 := cl a a1 a4 hx
        rw [← a3]
        have h2 := hd2 _ hx
        have h3 := bdc a a1
        exact all _ (hd_lt hn a1) (by show _ < (4611686018427387904 : Int); omega)
    · omega
  · intro hf
    rcases F with ⟨e, _⟩ | ⟨f, e, fn, fD, fx, fm⟩
    · omega
    · have df := J.dn f fD
      obtain ⟨y, L, y0, W, w2, w3, w4⟩ := J.way hc (rk f + 1) f fD (by omega)
      have kn : (k : Int) ≤ n := by have := J.cnt; have := cntP_all (n := n) (P := D); omega
      have hb := J.bd f fn df.2.1
      refine ⟨f, e, fn, fx, by omega, fm, fun a ha hr => ?_, y, L, y0, W, w2, fun s hs a hva => ?_⟩
      · have c0 := hc a ha hr
        have pf := J.pos f fn
        have pt := J.pos _ (tl_lt hn ha)
        have ph := J.pos _ (hd_lt hn ha)
        by_cases hD : D (tlA fr to a)
        · have := cl a ha hr hD
          unfold redC mnd at *
          dsimp only at *
          split <;> split <;> omega
        · have : dist (tlA fr to a) = farI := by
            apply Classical.byContradiction
            intro h
            exact hD (all _ (tl_lt hn ha) (by omega))
          unfold redC mnd at *
          dsimp only at *
          split <;> split <;> omega
      · obtain ⟨a1, a2, a3⟩ := w4 s hs a hva
        have l1 := w3 s (by omega)
        have l2 := w3 (s + 1) (by omega)
        unfold redC mnd at *
        rw [a1, a2] at *
        dsimp only at *
        rw [if_neg (by omega), if_neg (by omega)]
        omega
end

end Go.Proofs.Ytdblngaacnpgmaa

namespace Go.Proofs.Ytdblngaacnpgmaa
open Go
open Classical
set_option linter.unusedVariables false
set_option linter.unusedSimpArgs false

/-- The task's numbers. -/
structure EvP (n m : Nat) (fr to : Nat → Nat) (cap b : Nat → Int) : Prop where
  n1 : n ≤ 1024
  m1 : m ≤ 4096
  e : ∀ i, i < m → fr i < n ∧ to i < n
  cp : ∀ i, i < m → 0 ≤ cap i ∧ cap i ≤ 1048576
  bb : ∀ v, v < n → -1048576 ≤ b v ∧ b v ≤ 1048576
  s0 : sumN n b = 0
/-- The net, its rooms right, what is still too much right. -/
structure MS (own : Own) (h : H) (bn n m : Nat) (fr to : Nat → Nat) (cap b cost room ex pot : Nat → Int) : Prop where
  net : MN own h bn n m fr to room cost ex pot
  rm : RmP m cap room
  bal : ∀ v, v < n → ex v + OutF m fr to (onR room) v = b v
section
variable {own own' : Own} {h h' : H} {bn n m : Nat} {fr to : Nat → Nat} {cap b cost room ex pot : Nat → Int} {M : List Nat}
theorem MS.fm (S : MS own h bn n m fr to cap b cost room ex pot) (F : Fm M own h own' h') (hM : ∀ i, i ∈ M → 8 < i ∧ i < 40) : MS own' h' bn n m fr to cap b cost room ex pot := ⟨S.net.fm F hM, S.rm, S.bal⟩
theorem MS.ext (S : MS own h bn n m fr to cap b cost room ex pot) (x : Ext h h') : MS own h' bn n m fr to cap b cost room ex pot := ⟨S.net.ext x, S.rm, S.bal⟩
theorem MS.sum0 (S : MS own h bn n m fr to cap b cost room ex pot) (E : EvP n m fr to cap b) : sumN n ex = 0 := by
  have e1 : sumN n ex = sumN n fun v => b v - OutF m fr to (onR room) v := sumN_congr fun v hv => by have := S.bal v hv; omega
  rw [e1, sumN_sub, E.s0, out_all E.e]; rfl
theorem MS.done (S : MS own h bn n m fr to cap b cost room ex pot) (E : EvP n m fr to cap b) (no : ¬ ∃ v, v < n ∧ 0 < ex v) : ∀ v, v < n → ex v = 0 := by
  have h1 : ∀ v, v < n → 0 ≤ - ex v := fun v hv => by
    apply Classical.byContradiction
    intro h
    exact no ⟨v, hv, by omega⟩
  have e : sumN n (fun v => - ex v) = 0 := by
    have := sumN_sub (f := fun _ => 0) (g := ex) (k := n)
    rw [sumN_zero fun _ _ => rfl, S.sum0 E] at this
    rw [show (fun v => - ex v) = fun v => 0 - ex v by funext v; omega, this]; rfl
  intro v hv
  have := sumN_all0 h1 (by omega) v hv
  omega
theorem Fm.none {b : Nat} (F : Fm M own h own' h') (hb : h' b = none) : h b = none := by
  cases e : h b with
  | none => rfl
  | some o => obtain ⟨⟨o', e'⟩, _⟩ := F.stay b o e; rw [hb] at e'; cases e'
theorem redC_pr {a : Nat} (hc : cost (prA a) = - cost a) (ha : a < 2 * m) : redC fr to cost pot (prA a) = - redC fr to cost pot a := by
  unfold redC
  rw [hc, tl_pr, hd_pr]; omega
end

end Go.Proofs.Ytdblngaacnpgmaa

namespace Go.Proofs.Ytdblngaacnpgmaa
open Go
open Classical
set_option linter.unusedVariables false
set_option linter.unusedSimpArgs false

theorem sub_dec {a b : Nat} (h : b < a) : a - (b + 1) < a - b := by omega
/-- A circle with room that costs less than nothing. -/
def NegC (n m : Nat) (fr to : Nat → Nat) (room cost : Nat → Int) : Prop :=
  ∃ (y arc : Nat → Nat) (p : Nat), 1 ≤ p ∧ p ≤ n ∧ y p = y 0 ∧ (∀ s, s < p → arc s < 2 * m ∧ hdA fr to (arc s) = y s ∧ tlA fr to (arc s) = y (s + 1) ∧ 0 < room (arc s)) ∧ sumN p (fun s => cost (arc s)) < 0
end Go.Proofs.Ytdblngaacnpgmaa

namespace Go.Proofs.Ytdblngaacnpgmaa
open Go
open Classical
set_option linter.unusedVariables false
set_option linter.unusedSimpArgs false

section
variable {own own' : Own} {h h' : H} {bn n m : Nat} {fr to : Nat → Nat} {cap b k cost room ex pot via : Nat → Int} {M : List Nat}
/-- Broad first: who is seen, by which arc. -/
structure BfP (n m : Nat) (fr to : Nat → Nat) (room ex : Nat → Int) (sd : Nat → Bool) (via : Nat → Int) (Q : List Nat) (rk : Nat → Nat) : Prop where
  qs : ∀ v ∈ Q, v < n ∧ sd v = true
  sq : ∀ v, sd v = true → v ∈ Q
  arc : ∀ v, sd v = true → (via v = -1 ∧ 0 < ex v) ∨ ∃ a : Nat, via v = a ∧ a < 2 * m ∧ hdA fr to a = v ∧ 0 < room a ∧ sd (tlA fr to a) = true ∧ rk (tlA fr to a) < rk v
  ok : ∀ v, sd v = true → 0 ≤ ex v
  len : (Q.length : Int) + unm n sd ≤ n
  src : ∀ v, v < n → 0 < ex v → sd v = true
  rkb : ∀ v, sd v = true → rk v < Q.length + 1
section
variable {sd : Nat → Bool} {Q : List Nat} {rk : Nat → Nat}
theorem BfP.see (B : BfP n m fr to room ex sd via Q rk) {a : Nat} (ha : a < 2 * m) (ht : sd (tlA fr to a) = true) (hr : 0 < room a) (hf : sd (hdA fr to a) = false) :
    ∀ v, updB sd (hdA fr to a) true v = true → (upd via (hdA fr to a) a v = -1 ∧ 0 < ex v) ∨ ∃ c : Nat, upd via (hdA fr to a) a v = c ∧ c < 2 * m ∧ hdA fr to c = v ∧ 0 < room c ∧ updB sd (hdA fr to a) true (tlA fr to c) = true ∧ updN rk (hdA fr to a) (Q.length + 1) (tlA fr to c) < updN rk (hdA fr to a) (Q.length + 1) v := by
  intro v hv
  have ne : ∀ w, sd w = true → w ≠ hdA fr to a := fun w hw e => by rw [e, hf] at hw; cases hw
  by_cases e : v = hdA fr to a
  · subst e
    refine .inr ⟨a, upd_at, ha, rfl, hr, updB_mono ht, ?_⟩
    rw [updN_at, updN_ne (ne _ ht)]
    exact B.rkb _ ht
  · have hv : sd v = true := by unfold updB at hv; rwa [if_neg e] at hv
    rw [upd_ne e, updN_ne e]
    rcases B.arc v hv with h | ⟨c, h1, h2, h3, h4, h5, h6⟩
    · exact .inl h
    · exact .inr ⟨c, h1, h2, h3, h4, updB_mono h5, by rw [updN_ne (ne _ h5)]; exact h6⟩
theorem BfP.push (B : BfP n m fr to room ex sd via Q rk) {a : Nat} (ha : a < 2 * m) (ht : sd (tlA fr to a) = true) (hr : 0 < room a) (hf : sd (hdA fr to a) = false) (hn : hdA fr to a < n) (hx : 0 ≤ ex (hdA fr to a)) :
    BfP n m fr to room ex (updB sd (hdA fr to a) true) (upd via (hdA fr to a) a) (Q ++ [hdA fr to a]) (updN rk (hdA fr to a) (Q.length + 1)) := by
  have hu := unm_set hn hf
  refine ⟨fun v hv => ?_, fun v hv => ?_, B.see ha ht hr hf, fun v hv => ?_, ?_, fun v hv hx => updB_mono (B.src v hv hx), fun v hv => ?_⟩
  · rcases List.mem_append.1 hv with h | h
    · exact ⟨(B.qs v h).1, updB_mono (B.qs v h).2⟩
    · have : v = hdA fr to a := by simpa using h
      subst this; exact ⟨hn, by unfold updB; simp⟩
  · by_cases e : v = hdA fr to a
    · subst e; simp
    · have : sd v = true := by unfold updB at hv; rwa [if_neg e] at hv
      exact List.mem_append.2 (.inl (B.sq v this))
  · by_cases e : v = hdA fr to a
    · subst e; exact hx
    · exact B.ok v (by unfold updB at hv; rwa [if_neg e] at hv)
  · have := B.len
    simp only [List.length_append, List.length_cons, List.length_nil]
    omega
  · simp only [List.length_append, List.length_cons, List.length_nil]
    by_cases e : v = hdA fr to a
    · subst e; rw [updN_at]; omega
    · rw [updN_ne e]
      have := B.rkb v (by unfold updB at hv; rwa [if_neg e] at hv)
      omega
end
end

end Go.Proofs.Ytdblngaacnpgmaa

namespace Go.Proofs.Ytdblngaacnpgmaa
open Go
open Classical
set_option linter.unusedVariables false
set_option linter.unusedSimpArgs false

theorem Rch.path {R : Nat → Nat → Prop} {u v : Nat} (r : Rch R u v) : ∃ (L : Nat) (y : Nat → Nat), y 0 = u ∧ y L = v ∧ ∀ s, s < L → R (y s) (y (s + 1)) := by
  induction r with
  | refl => exact ⟨0, fun _ => u, rfl, rfl, fun s hs => by omega⟩
  | @step b c _ k ih =>
    obtain ⟨L, y, y0, yL, hy⟩ := ih
    refine ⟨L + 1, fun s => if s ≤ L then y s else c, by simp [y0], if_neg (by omega), fun s hs => ?_⟩
    by_cases e : s = L
    · subst e
      have h1 : ¬ s + 1 ≤ s := by omega
      simp only [Nat.le_refl, h1, if_true, if_false]
      rw [yL]; exact k
    · have h1 : s ≤ L := by omega
      have h2 : s + 1 ≤ L := by omega
      simp only [h1, h2, if_true]
      exact hy s (by omega)
theorem short_path {n : Nat} {R : Nat → Nat → Prop} {u v : Nat} (hn : ∀ a b, R a b → b < n) (hu : u < n) (r : Rch R u v) : ∃ (L : Nat) (y : Nat → Nat), L < n ∧ y 0 = u ∧ y L = v ∧ ∀ s, s < L → R (y s) (y (s + 1)) := by
  obtain ⟨L, ⟨y, y0, yL, hy⟩, hmin⟩ := least (P := fun L => ∃ y : Nat → Nat, y 0 = u ∧ y L = v ∧ ∀ s, s < L → R (y s) (y (s + 1))) r.path
  refine ⟨L, y, ?_, y0, yL, hy⟩
  apply Classical.byContradiction
  intro hL
  have hlt : ∀ i, i ≤ n → y i < n := fun i hi => by
    cases i with
    | zero => rw [y0]; exact hu
    | succ i => exact hn _ _ (hy i (by omega))
  obtain ⟨i, j, h1, h2, h3⟩ := pigeon hlt
  have := hmin (L - (j - i)) ⟨fun s => if s ≤ i then y s else y (s + (j - i)), by simp [y0], ?_, fun s hs => ?_⟩
  · omega
  · by_cases e : L - (j - i) ≤ i
    · have e2 : L - (j - i) = i := by omega
      simp only [e2, Nat.le_refl, if_true]
      rw [h3, ← yL]
      congr 1; omega
    · simp only [e, if_false]
      rw [← yL]
      congr 1; omega
  · by_cases e : s = i
    · subst e
      have h4 : ¬ s + 1 ≤ s := by omega
      simp only [Nat.le_refl, h4, if_true, if_false]
      rw [h3, show s + 1 + (j - s) = j + 1 by omega]
      exact hy j (by omega)
    · by_cases e2 : s ≤ i
      · have h4 : s + 1 ≤ i := by omega
        simp only [e2, h4, if_true]
        exact hy s (by omega)
      · have h4 : ¬ s + 1 ≤ i := by omega
        simp only [e2, h4, if_false]
        rw [show s + 1 + (j - i) = s + (j - i) + 1 by omega]
        exact hy _ (by omega)
section
variable {n m : Nat} {fr to : Nat → Nat} {cap b cost room room0 ex pot pot0 : Nat → Int} {w e0 : Int}
/-- From where there is too much a way leads to where something lacks, along what differs from a plan. -/
theorem lack_way (R : RmP m cap room) (R0 : RmP m cap room0) (hn : ∀ i, i < m → fr i < n ∧ to i < n) (h : ∀ v, v < n → OutF m fr to (onR room0) v - OutF m fr to (onR room) v = ex v) {v : Nat} (hv : v < n) (hx : 0 < ex v) :
    ∃ (L : Nat) (y : Nat → Nat), L < n ∧ y 0 = v ∧ y L < n ∧ ex (y L) < 0 ∧ ∀ s, s < L → ∃ a, a < 2 * m ∧ tlA fr to a = y s ∧ hdA fr to a = y (s + 1) ∧ 0 < room a ∧ 0 < room0 (prA a) := by
  let D : Nat → Nat → Prop := fun u w => ∃ a, a < 2 * m ∧ tlA fr to a = u ∧ hdA fr to a = w ∧ 0 < room a ∧ 0 < room0 (prA a)
  have hD : ∀ a b, D a b → b < n := fun a b ⟨c, h1, _, h3, _⟩ => by rw [← h3]; exact hd_lt hn h1
  by_cases e : ∃ u, Rch D v u ∧ u < n ∧ ex u < 0
  · obtain ⟨u, r, un, ux⟩ := e
    obtain ⟨L, y, h1, h2, h3, h4⟩ := short_path hD hv r
    exact ⟨L, y, h1, h2, by rw [h3]; exact un, by rw [h3]; exact ux, h4⟩
  exfalso
  have hC : ∀ u, u < n → Rch D v u → 0 ≤ ex u := fun u hu r => by
    apply Classical.byContradiction
    intro h2; exact e ⟨u, r, hu, by omega⟩
  have e1 := out_side (f := onR room0) hn (fun u => Rch D v u)
  have e2 := out_side (f := onR room) hn (fun u => Rch D v u)
  have e3 : sumN n (fun u => if Rch D v u then ex u else 0) = sumN n (fun u => if Rch D v u then OutF m fr to (onR room0) u else 0) - sumN n (fun u => if Rch D v u then OutF m fr to (onR room) u else 0) := by
    rw [← sumN_sub]
    refine sumN_congr fun u hu => ?_
    have := h u hu
    split <;> omega
  have e4 : sumN m (fun i => ((if Rch D v (fr i) then onR room0 i else 0) - (if Rch D v (to i) then onR room0 i else 0)) - ((if Rch D v (fr i) then onR room i else 0) - (if Rch D v (to i) then onR room i else 0))) ≤ sumN m fun _ => 0 := sumN_le fun i hi => by
    have s1 := R.sum i hi
    have s2 := R0.sum i hi
    have p1 := R.pos (2 * i) (by omega)
    have p2 := R.pos (2 * i + 1) (by omega)
    have p3 := R0.pos (2 * i) (by omega)
    have p4 := R0.pos (2 * i + 1) (by omega)
    have pe : prA (2 * i) = 2 * i + 1 := by unfold prA; rw [if_pos (by omega)]
    have po : prA (2 * i + 1) = 2 * i := by unfold prA; rw [if_neg (by omega)]; omega
    unfold onR
    by_cases c1 : Rch D v (fr i) <;> by_cases c2 : Rch D v (to i)
    · simp only [c1, c2, if_true]; omega
    · simp only [c1, c2, if_true, if_false]
      have : ¬ (0 < room (2 * i) ∧ 0 < room0 (2 * i + 1)) := fun ⟨a, b⟩ => c2 (c1.step ⟨2 * i, by omega, tlA_0 i, hdA_0 i, a, by rw [pe]; exact b⟩)
      omega
    · simp only [c1, c2, if_true, if_false]
      have : ¬ (0 < room (2 * i + 1) ∧ 0 < room0 (2 * i)) := fun ⟨a, b⟩ => c1 (c2.step ⟨2 * i + 1, by omega, tlA_1 i, hdA_1 i, a, by rw [po]; exact b⟩)
      omega
    · simp only [c1, c2, if_false]; omega
  rw [sumN_sub, ← e1, ← e2, ← e3, sumN_zero (fun _ _ => rfl)] at e4
  have := sumN_mem (f := fun u => if Rch D v u then ex u else 0) (k := n) (i := v) (fun u hu => by
    show 0 ≤ if Rch D v u then ex u else 0
    by_cases c : Rch D v u
    · rw [if_pos c]; exact hC u hu c
    · rw [if_neg c]; omega) hv
  rw [if_pos Rch.refl] at this
  omega
/-- Potentials on the way of refine: no arc with room costs less than -w; none that lacks was lowered. -/
structure RfP (n m : Nat) (fr to : Nat → Nat) (cost pot0 : Nat → Int) (w B : Int) (room ex pot : Nat → Int) : Prop where
  ge : ∀ a, a < 2 * m → 0 < room a → -w ≤ redC fr to cost pot a
  lo : ∀ v, v < n → pot0 v - B ≤ pot v ∧ pot v ≤ pot0 v
  ng : ∀ v, v < n → ex v < 0 → pot v = pot0 v
/-- What refine starts from. -/
structure Rf0 (n m : Nat) (fr to : Nat → Nat) (cap b cost room0 pot0 : Nat → Int) (w e0 : Int) : Prop where
  rm : RmP m cap room0
  out : ∀ v, v < n → OutF m fr to (onR room0) v = b v
  ge : ∀ a, a < 2 * m → 0 < room0 a → -e0 ≤ redC fr to cost pot0 a
  w1 : 1 ≤ w
  e1 : 0 ≤ e0
  pr : ∀ a, a < 2 * m → cost (prA a) = - cost a
  cb : ∀ a, a < 2 * m → -1125899906842624 ≤ cost a ∧ cost a ≤ 1125899906842624
  pb : ∀ v, v < n → n * (w + e0) - 281474976710656 ≤ pot0 v ∧ pot0 v ≤ 0
theorem pot_way (Z : Rf0 n m fr to cap b cost room0 pot0 w e0) (ge : ∀ a, a < 2 * m → 0 < room a → -w ≤ redC fr to cost pot a) {y : Nat → Nat} {L : Nat}
    (hy : ∀ s, s < L → ∃ a, a < 2 * m ∧ tlA fr to a = y s ∧ hdA fr to a = y (s + 1) ∧ 0 < room a ∧ 0 < room0 (prA a)) : ∀ s, s ≤ L → pot (y s) - pot0 (y s) - s * (w + e0) ≤ pot (y 0) - pot0 (y 0) := by
  intro s
  induction s with
  | zero => intro _; simp
  | succ s ih =>
    intro hs
    have := ih (by omega)
    obtain ⟨a, h1, h2, h3, h4, h5⟩ := hy s (by omega)
    have g1 := ge a h1 h4
    have g2 := Z.ge _ (prA_lt h1) h5
    rw [redC_pr (Z.pr a h1) h1] at g2
    unfold redC at g1 g2
    rw [h2, h3] at g1 g2
    have e : ((s + 1 : Nat) : Int) * (w + e0) = s * (w + e0) + (w + e0) := by rw [Int.natCast_add, Int.add_mul]; simp
    rw [e]
    generalize (s : Int) * (w + e0) = P at *
    omega
theorem Rf0.low (Z : Rf0 n m fr to cap b cost room0 pot0 w e0) (hn : ∀ i, i < m → fr i < n ∧ to i < n) (R : RmP m cap room) (bal : ∀ v, v < n → ex v + OutF m fr to (onR room) v = b v)
    (ge : ∀ a, a < 2 * m → 0 < room a → -w ≤ redC fr to cost pot a) (ng : ∀ v, v < n → ex v < 0 → pot v = pot0 v) {v : Nat} (hv : v < n) (hx : 0 < ex v) :
    pot0 v - n * (w + e0) ≤ pot v ∧ ∃ a, a < 2 * m ∧ tlA fr to a = v ∧ 0 < room a := by
  obtain ⟨L, y, h1, h2, h3, h4, h5⟩ := lack_way (ex := ex) R Z.rm hn (fun u hu => by have := bal u hu; have := Z.out u hu; omega) hv hx
  constructor
  · have := pot_way Z ge h5 L (Nat.le_refl _)
    rw [h2, ng _ h3 h4] at this
    have w1 := Z.w1
    have e1 := Z.e1
    have h6 : (L : Int) * (w + e0) ≤ n * (w + e0) := Int.mul_le_mul_of_nonneg_right (by omega) (by omega)
    generalize (L : Int) * (w + e0) = P at *
    generalize (n : Int) * (w + e0) = Q at *
    omega
  · cases L with
    | zero => rw [h2] at h4; omega
    | succ L =>
      obtain ⟨a, g1, g2, g3, g4, g5⟩ := h5 0 (by omega)
      exact ⟨a, g1, by rw [g2, h2], g4⟩
theorem RfP.pb (P : RfP n m fr to cost pot0 w (n * (w + e0)) room ex pot) (Z : Rf0 n m fr to cap b cost room0 pot0 w e0) : ∀ v, v < n → -281474976710656 ≤ pot v ∧ pot v ≤ 0 := fun v hv => by
  have := P.lo v hv
  have := Z.pb v hv
  generalize (n : Int) * (w + e0) = Q at *
  omega
theorem RfP.push {B : Int} (P : RfP n m fr to cost pot0 w B room ex pot) (hw : 1 ≤ w) (hp : ∀ a, a < 2 * m → cost (prA a) = - cost a) {a : Nat} {x : Int} (ha : a < 2 * m) (hr : redC fr to cost pot a < 0) (hx : 0 < x) (h1 : x ≤ room a) (h2 : x ≤ ex (tlA fr to a)) :
    RfP n m fr to cost pot0 w B (sndR room a x) (exS ex (tlA fr to a) (hdA fr to a) x) pot := by
  refine ⟨fun c hc hrc => ?_, P.lo, fun v hv hxv => P.ng v hv ?_⟩
  · by_cases e1 : c = a
    · subst e1; exact P.ge c hc (by omega)
    · by_cases e2 : c = prA a
      · subst e2; rw [redC_pr (hp a ha) ha]; omega
      · rw [sndR_o e1 e2] at hrc; exact P.ge c hc hrc
  · unfold exS at hxv
    by_cases e1 : tlA fr to a = v
    · rw [if_pos e1] at hxv; rw [e1] at h2; split at hxv <;> omega
    · rw [if_neg e1] at hxv; split at hxv <;> omega
end

end Go.Proofs.Ytdblngaacnpgmaa

namespace Go.Proofs.Ytdblngaacnpgmaa
open Go
open Classical
set_option linter.unusedVariables false
set_option linter.unusedSimpArgs false

/-- The queue holds those with too much, but for one. -/
structure QuP (n : Nat) (ex : Nat → Int) (Q : List Nat) (c : Nat → Prop) : Prop where
  nd : Q.Nodup
  mem : ∀ v, v ∈ Q → v < n ∧ 0 < ex v ∧ ¬ c v
  all : ∀ v, v < n → 0 < ex v → v ∈ Q ∨ c v
section
variable {own own' : Own} {h h' : H} {bn bs n m : Nat} {fr to : Nat → Nat} {cap b k cost room room0 ex pot pot0 : Nat → Int} {M : List Nat} {w e0 : Int} {Q : List Nat}
theorem QuP.len {c : Nat → Prop} (q : QuP n ex Q c) : Q.length ≤ n := by
  have := cntP_list (n := n) q.nd fun x hx => (q.mem x hx).1
  have := cntP_all (n := n) (P := fun x => x ∈ Q)
  omega
theorem QuP.push {v u : Nat} {x : Int} (q : QuP n ex Q fun z => z = v) (hu : u < n) (hx : 0 < x) (hv : 0 < ex v) (hxv : x ≤ ex v) :
    QuP n (exS ex v u x) (if ex u ≤ 0 ∧ 0 < ex u + x then Q ++ [u] else Q) (fun z => z = v) ∧ 0 ≤ exS ex v u x v := by
  have inc : ∀ z, z ≠ v → ex z ≤ exS ex v u x z := fun z hz => by
    unfold exS; rw [if_neg (fun h => hz h.symm)]; split <;> omega
  constructor
  · by_cases c : ex u ≤ 0 ∧ 0 < ex u + x
    · rw [if_pos c]
      have uv : u ≠ v := by rintro rfl; omega
      have uQ : u ∉ Q := fun h => by have := (q.mem u h).2.1; omega
      refine ⟨?_, fun z hz => ?_, fun z hz hx => ?_⟩
      · rw [List.nodup_append]
        refine ⟨q.nd, by simp, fun a ha b hb => ?_⟩
        have : b = u := by simpa using hb
        subst this; rintro rfl; exact uQ ha
      · rcases List.mem_append.1 hz with k | k
        · obtain ⟨h1, h2, h3⟩ := q.mem z k
          exact ⟨h1, by have := inc z h3; omega, h3⟩
        · have : z = u := by simpa using k
          subst this
          refine ⟨hu, ?_, uv⟩
          unfold exS; rw [if_neg (fun h => uv h.symm), if_pos rfl]; omega
      · by_cases e : z = v
        · exact .inr e
        · by_cases e2 : z = u
          · subst e2; exact .inl (by simp)
          · have : exS ex v u x z = ex z := by unfold exS; rw [if_neg (fun h => e h.symm), if_neg (fun h => e2 h.symm)]; omega
            rw [this] at hx
            rcases q.all z hz hx with k | k
            · exact .inl (List.mem_append.2 (.inl k))
            · exact .inr k
    · rw [if_neg c]
      refine ⟨q.nd, fun z hz => ?_, fun z hz hx => ?_⟩
      · obtain ⟨h1, h2, h3⟩ := q.mem z hz
        exact ⟨h1, by have := inc z h3; omega, h3⟩
      · by_cases e : z = v
        · exact .inr e
        · by_cases e2 : z = u
          · subst e2
            refine q.all z hz ?_
            unfold exS at hx; rw [if_neg (fun h => e h.symm), if_pos rfl] at hx
            omega
          · have : exS ex v u x z = ex z := by unfold exS; rw [if_neg (fun h => e h.symm), if_neg (fun h => e2 h.symm)]; omega
            rw [this] at hx
            exact q.all z hz hx
  · unfold exS; rw [if_pos rfl]; split <;> omega
end

end Go.Proofs.Ytdblngaacnpgmaa

namespace Go.Proofs.Ytdblngaacnpgmaa
open Go
open Classical
set_option linter.unusedVariables false
set_option linter.unusedSimpArgs false

section
variable {own own' : Own} {h h' : H} {bn bs n m : Nat} {fr to : Nat → Nat} {cap b k cost room room0 ex pot pot0 : Nat → Int} {M : List Nat} {w e0 : Int}
/-- Nearly right for costs times n + 1: no circle costs less than nothing. -/
theorem NegC.no (ge : ∀ a, a < 2 * m → 0 < room a → -1 ≤ redC fr to (fun a => cost a * ((n + 1 : Nat) : Int)) pot a) : ¬ NegC n m fr to room cost := by
  rintro ⟨y, arc, p, p1, p2, p3, p4, p5⟩
  have key : ∀ q, q ≤ p → -(q : Int) + pot (y 0) - pot (y q) ≤ sumN q (fun s => cost (arc s)) * ((n + 1 : Nat) : Int) := by
    intro q
    induction q with
    | zero => intro _; show _ ≤ (0 : Int) * _; omega
    | succ q ih =>
      intro hq
      have a := ih (by omega)
      obtain ⟨g1, g2, g3, g4⟩ := p4 q (by omega)
      have c := ge _ g1 g4
      unfold redC at c
      rw [g2, g3] at c
      show _ ≤ (sumN q (fun s => cost (arc s)) + cost (arc q)) * ((n + 1 : Nat) : Int)
      rw [Int.add_mul]
      generalize sumN q (fun s => cost (arc s)) * ((n + 1 : Nat) : Int) = A at *
      dsimp only at c
      generalize cost (arc q) * ((n + 1 : Nat) : Int) = B at *
      omega
  have := key p (Nat.le_refl _)
  rw [p3] at this
  have h2 : sumN p (fun s => cost (arc s)) * ((n + 1 : Nat) : Int) ≤ -1 * ((n + 1 : Nat) : Int) := Int.mul_le_mul_of_nonneg_right (by omega) (by omega)
  omega
end

end Go.Proofs.Ytdblngaacnpgmaa

namespace Go.Proofs.Ytdblngaacnpgmaa
open Go
set_option linter.unusedVariables false
set_option linter.unusedSimpArgs false

section
variable {h : H} {w : List Value} {n m l : Nat} {es : Nat → Ed} {sv : Value} {bf : Nat → Int}
/-- Are they supplies? -/
def supOK (n : Int) (l : Nat) (bf : Nat → Int) : Prop := n = l ∧ (∀ v, v < l → -1048576 ≤ bf v ∧ bf v ≤ 1048576) ∧ sumN l bf = 0
end

end Go.Proofs.Ytdblngaacnpgmaa

namespace Go.Proofs.Ytdblngaacnpgmaa
open Go
set_option linter.unusedVariables false
set_option linter.unusedSimpArgs false
set_option maxRecDepth 100000

theorem FrOK.cons {fr : Fr} {a : Act} {t : Nat} {v : Value} (h : FrOK fr a) (hv : a.tmps[t]? = some v) : FrOK ((t, v) :: fr) a := by
  intro s q hq
  simp only [Fr.get] at hq
  cases e : Nat.beq t s with
  | true =>
    have := Nat.eq_of_beq_eq_true e
    subst this
    rw [e, cond_true] at hq
    rw [hv]; exact hq
  | false =>
    rw [e, cond_false] at hq
    exact h s q hq
end Go.Proofs.Ytdblngaacnpgmaa

namespace Go.Proofs.Ytdblngaacnpgmaa
open Go
set_option linter.unusedVariables false
set_option linter.unusedSimpArgs false
set_option maxRecDepth 100000

/-- The results' blocks. -/
structure P4 (g : H) (b6 b7 b8 b9 : Nat) (pl : List Value) (co : Int) (sv : Value) (er : Int) : Prop where
  l : pl.length = 3
  k6 : Bl g b6 pl
  k7 : Bl g b7 [.int .i64 co]
  k8 : Bl g b8 [sv]
  k9 : Bl g b9 [.int .i64 er]
  ne : b6 ≠ b7 ∧ b6 ≠ b8 ∧ b6 ≠ b9 ∧ b7 ≠ b8 ∧ b7 ≠ b9 ∧ b8 ≠ b9
/-- All but the results' blocks is kept. -/
def K4 (b6 b7 b8 b9 : Nat) (g g2 : H) : Prop := ∀ c o, c ≠ b6 → c ≠ b7 → c ≠ b8 → c ≠ b9 → g c = some o → g2 c = some o
section
variable {g g' : H} {b6 b7 b8 b9 : Nat} {pl : List Value} {co er : Int} {sv : Value}
theorem P4.ext (P : P4 g b6 b7 b8 b9 pl co sv er) (x : Ext g g') : P4 g' b6 b7 b8 b9 pl co sv er := ⟨P.l, P.k6.ext x, P.k7.ext x, P.k8.ext x, P.k9.ext x, P.ne⟩
theorem Ext.k4 (x : Ext g g') : K4 b6 b7 b8 b9 g g' := fun c o _ _ _ _ h => x c o h
theorem K4.trans {g2 g3 : H} (a : K4 b6 b7 b8 b9 g g2) (b : K4 b6 b7 b8 b9 g2 g3) : K4 b6 b7 b8 b9 g g3 := fun c o h1 h2 h3 h4 h => b c o h1 h2 h3 h4 (a c o h1 h2 h3 h4 h)
theorem P4.s8 {sv' : Value} {K : H → Prop} (P : P4 g b6 b7 b8 b9 pl co sv er) (k : ∀ g1, K4 b6 b7 b8 b9 g g1 → P4 g1 b6 b7 b8 b9 pl co sv' er → K g1) : stC g (bk b8) sv' K := by
  have := P.k8.stC (i := 0) (x := sv') (K := K) (by simp) fun g1 kp B => k g1 (fun c o _ _ h1 _ h => kp c o h1 h) ⟨P.l, P.k6.kp kp P.ne.2.1, P.k7.kp kp P.ne.2.2.2.1, B, P.k9.kp kp P.ne.2.2.2.2.2.symm, P.ne⟩
  rwa [add_zero'] at this
theorem Bl.ldI0 {b : Nat} {x : Int} {K : Int → Prop} (B : Bl g b [.int .i64 x]) (k : K x) : ldI g (bk b) .i64 K := ⟨x, by have := B.ld (i := 0) rfl; rwa [add_zero'] at this, k⟩
theorem Bl.ldV0 {b : Nat} {x : Value} {K : Value → Prop} (B : Bl g b [x]) (k : K x) : ldV g (bk b) K := ⟨x, by have := B.ld (i := 0) rfl; rwa [add_zero'] at this, k⟩
/-- The results are read. -/
theorem P4.read {K : List Value → Int → Value → Int → Prop} (P : P4 g b6 b7 b8 b9 pl co sv er) (k : K pl co sv er) : ldN g (bk b6) 3 fun x1 => ldI g (bk b7) .i64 fun x2 => ldV g (bk b8) fun x3 => ldI g (bk b9) .i64 fun x4 => K x1 x2 x3 x4 :=
  P.k6.ldN P.l (P.k7.ldI0 (P.k8.ldV0 (P.k9.ldI0 k)))
end
end Go.Proofs.Ytdblngaacnpgmaa

namespace Go.Proofs.Ytdblngaacnpgmaa
open Go
set_option linter.unusedVariables false
set_option linter.unusedSimpArgs false

instance {n : Int} {l : Nat} {bf : Nat → Int} : Decidable (supOK n l bf) := by unfold supOK; infer_instance
/-- A plan as Go holds it. -/
abbrev plV (sup on pot : Value) : List Value := [sup, on, pot]
/-- What Solve answers where nothing is wrong. -/
structure PlanR (own : Own) (h' : H) (n m : Nat) (es : Nat → Ed) (bf : Nat → Int) (vs von vp : Value) (f p : Nat → Int) : Prop where
  s : S1 own h' 24 vs (ints n bf)
  o : S1 own h' 23 von (ints m f)
  po : S1 own h' 7 vp (ints n p)
  pl : PlanP n m (frE es) (toE es) (cpE es) bf f
  pt : PotP m (frE es) (toE es) (cpE es) (ckE es) f p
  pb : ∀ v, v < n → -1073741824 ≤ p v ∧ p v ≤ 1073741824
section
variable {own own' : Own} {g g' h h' : H} {i b : Nat} {v : Value} {vs : List Value}
/-- The owners of new blocks besides those of old ones. -/
def mgO (g : H) (own own' : Own) : Own := fun c => match g c with
  | none => own' c
  | some _ => own c
theorem mgO_new {c : Nat} (h : g c = none) : mgO g own own' c = own' c := by unfold mgO; rw [h]
theorem mgO_old {c : Nat} {o : Obj} (h : g c = some o) : mgO g own own' c = own c := by unfold mgO; rw [h]
theorem Bs.mg {M : List Nat} (bs : Bs g own' g') : Fm M own g (mgO g own own') g' := ⟨fun c o e _ => bs.ext c o e, fun c o e => ⟨⟨o, bs.ext c o e⟩, mgO_old e⟩⟩
theorem Bs.new_ (bs : Bs g own' g') {c : Nat} (h : own' c ≠ 0) : g c = none := by
  cases e : g c with
  | none => rfl
  | some o => exact absurd (bs.old c o e) h
theorem S1.mg (s : S1 own' g' i v vs) (bs : Bs g own' g') (hi : i ≠ 0) : S1 (mgO g own own') g' i v vs := by
  rcases s with s | ⟨c, hc, s⟩
  · exact .inl s
  · exact .inr ⟨c, by rw [mgO_new (bs.new_ (by rw [hc]; exact hi))]; exact hc, s⟩
theorem B1.mg (s : B1 own' g' i b vs) (bs : Bs g own' g') (hi : i ≠ 0) : B1 (mgO g own own') g' i b vs := ⟨by
  obtain ⟨hc, _⟩ := s
  rw [mgO_new (bs.new_ (by rw [hc]; exact hi))]; exact hc, s.bl⟩
theorem MN.mg {bn n m : Nat} {fr to : Nat → Nat} {room cost ex pot : Nat → Int} (N : MN own' g' bn n m fr to room cost ex pot) (bs : Bs g own' g') : MN (mgO g own own') g' bn n m fr to room cost ex pot := by
  obtain ⟨vf, vt, vr, vc, vo, vx, vp, outs, k8, k1, k2, k3, k4, k5, k6, k7, ko⟩ := N.q
  exact ⟨vf, vt, vr, vc, vo, vx, vp, outs, k8.mg bs (by omega), k1.mg bs (by omega), k2.mg bs (by omega), k3.mg bs (by omega), k4.mg bs (by omega), k5.mg bs (by omega), k6.mg bs (by omega), k7.mg bs (by omega), fun v hv => (ko v hv).mg bs (by omega)⟩
theorem K4.fm {b6 b7 b8 b9 : Nat} {pl pl' : List Value} {co er co' er' : Int} {sv sv' : Value} (k : K4 b6 b7 b8 b9 g g') (P : P4 g b6 b7 b8 b9 pl co sv er) (P' : P4 g' b6 b7 b8 b9 pl' co' sv' er') (h6 : own b6 = 15) (h7 : own b7 = 16) (h8 : own b8 = 17) (h9 : own b9 = 18) : Fm [15, 16, 17, 18] own g own g' := by
  refine ⟨fun c o e n => k c o ?_ ?_ ?_ ?_ e, fun c o e => ⟨?_, rfl⟩⟩
  · rintro rfl; rw [h6] at n; simp at n
  · rintro rfl; rw [h7] at n; simp at n
  · rintro rfl; rw [h8] at n; simp at n
  · rintro rfl; rw [h9] at n; simp at n
  · by_cases e6 : c = b6
    · subst e6; obtain ⟨x, hx⟩ := P'.k6; exact ⟨_, hx⟩
    · by_cases e7 : c = b7
      · subst e7; obtain ⟨x, hx⟩ := P'.k7; exact ⟨_, hx⟩
      · by_cases e8 : c = b8
        · subst e8; obtain ⟨x, hx⟩ := P'.k8; exact ⟨_, hx⟩
        · by_cases e9 : c = b9
          · subst e9; obtain ⟨x, hx⟩ := P'.k9; exact ⟨_, hx⟩
          · exact ⟨o, k c o e6 e7 e8 e9 e⟩
theorem P4.of {b6 b7 b8 b9 : Nat} {pl : List Value} {co er : Int} {sv : Value} (hl : pl.length = 3) (k6 : B1 own g 15 b6 pl) (k7 : B1 own g 16 b7 [.int .i64 co]) (k8 : B1 own g 17 b8 [sv]) (k9 : B1 own g 18 b9 [.int .i64 er]) : P4 g b6 b7 b8 b9 pl co sv er := by
  have h6 := k6.own_
  have h7 := k7.own_
  have h8 := k8.own_
  have h9 := k9.own_
  refine ⟨hl, k6.bl, k7.bl, k8.bl, k9.bl, ?_, ?_, ?_, ?_, ?_, ?_⟩ <;> (rintro rfl; omega)
end

end Go.Proofs.Ytdblngaacnpgmaa

namespace Go.Proofs.Ytdblngaacnpgmaa
open Go
set_option linter.unusedVariables false
set_option linter.unusedSimpArgs false

section
variable {h : H} {w : List Value} {n : Int} {m l : Nat} {es : Nat → Ed} {sv : Value} {bf : Nat → Int}
theorem K4.ext_ {b6 b7 b8 b9 : Nat} {g g' : H} (x : Ext h g) (n6 : h b6 = none) (n7 : h b7 = none) (n8 : h b8 = none) (n9 : h b9 = none) (k : K4 b6 b7 b8 b9 g g') : Ext h g' := fun c o e => by
  refine k c o ?_ ?_ ?_ ?_ (x c o e)
  · rintro rfl; rw [n6] at e; cases e
  · rintro rfl; rw [n7] at e; cases e
  · rintro rfl; rw [n8] at e; cases e
  · rintro rfl; rw [n9] at e; cases e
end

end Go.Proofs.Ytdblngaacnpgmaa

namespace Go.Proofs.Ytdblngaacnpgmaa
open Go
set_option linter.unusedVariables false
set_option linter.unusedSimpArgs false

section
variable {h : H} {w : List Value} {n : Int} {m l : Nat} {es : Nat → Ed} {sv : Value} {bf : Nat → Int}
theorem Gd.ev (gd : Gd l m es) (hs : supOK l l bf) : EvP l m (frE es) (toE es) (cpE es) bf :=
  ⟨gd.n1, gd.m1, fun i hi => gd.ends i hi, gd.c, hs.2.1, hs.2.2⟩
end

end Go.Proofs.Ytdblngaacnpgmaa

namespace Go.Proofs.Ytdblngaacnpgmaa
open Go
set_option linter.unusedVariables false
set_option linter.unusedSimpArgs false

/-- A circle that costs less than nothing, of distinct nodes. -/
structure CircP (n M : Nat) (tl hd : Nat → Nat) (c : Nat → Int) (Y F : Nat → Nat) (p : Nat) : Prop where
  p1 : 1 ≤ p
  pn : p ≤ n
  cl : Y p = Y 0
  arc : ∀ s, s < p → F s < M ∧ hd (F s) = Y s ∧ tl (F s) = Y (s + 1)
  dis : ∀ s t, s < t → t < p → Y s ≠ Y t
  neg : sumN p (fun s => c (F s)) < 0
/-- Who was changed in round n + 1 hangs on such a circle. -/
theorem BF.circle {n M j tm : Nat} {tl hd : Nat → Nat} {c : Nat → Int} {U : Nat → Prop} {C : Int} {d : Nat → Int} {via τ r : Nat → Nat} (B : BF M tl hd c U C (n + 1) j d via τ r tm) (hnA : ∀ i, i < M → tl i < n ∧ hd i < n) {v : Nat} (hrv : r v = n + 1) :
    (∀ s, via (bck tl via v s) < M ∧ bck tl via v s < n) ∧ ∃ p, CircP n M tl hd c (fun t => bck tl via v (n + t)) (fun t => via (bck tl via v (n + t))) p ∧ ∀ q, 1 ≤ q → q < p → bck tl via v (n + q) ≠ bck tl via v n := by
  obtain ⟨hpos, p0, p1, p2, p3⟩ := B.found hnA hrv
  have hset : ∀ s, via (bck tl via v s) < M ∧ hd (via (bck tl via v s)) = bck tl via v s := fun s => by
    obtain ⟨a, b, c, _⟩ := B.set _ (hpos s)
    exact ⟨a, c⟩
  have hbn : ∀ s, bck tl via v s < n := fun s => by
    obtain ⟨a, c⟩ := hset s
    rw [← c]; exact (hnA _ a).2
  refine ⟨fun s => ⟨(hset s).1, hbn s⟩, ?_⟩
  obtain ⟨L, ⟨L1, L2, L3⟩, Lmin⟩ := least (P := fun p => 1 ≤ p ∧ p ≤ n ∧ bck tl via v (n + p) = bck tl via v n) ⟨p0, p1, p2, by rw [bck_add]; exact p3⟩
  refine ⟨L, ⟨L1, L2, L3, fun s _ => ⟨(hset _).1, (hset _).2, rfl⟩, fun i l h1 h2 e => ?_, ?_⟩, fun q q1 q2 e => ?_⟩
  · have e2 : bck tl via v (n + i + (L - l)) = bck tl via v (n + l + (L - l)) := by rw [bck_add, bck_add (i := n + l)]; rw [show bck tl via v (n + i) = bck tl via v (n + l) from e]
    rw [show n + l + (L - l) = n + L by omega, L3, show n + i + (L - l) = n + (i + (L - l)) by omega] at e2
    have := Lmin (i + (L - l)) ⟨by omega, by omega, e2⟩
    omega
  · have := B.circ (y := bck tl via v n) (p := L) L1 (by rw [← bck_add]; exact L3) (fun i _ => by rw [← bck_add]; exact hpos _)
    refine Int.lt_of_le_of_lt (Int.le_of_eq (sumN_congr fun t _ => ?_)) this
    rw [← bck_add]
  · have := Lmin q ⟨q1, by omega, e⟩
    omega

end Go.Proofs.Ytdblngaacnpgmaa

namespace Go.Proofs.Ytdblngaacnpgmaa
open Go
set_option linter.unusedVariables false
set_option linter.unusedSimpArgs false

section
variable {h : H} {w : List Value} {n M : Nat} {es : Nat → Ed} {dv : Value} {d : Nat → Int}
theorem ints_o1 (n : Nat) (f : Nat → Int) : ∀ v ∈ ints n f, v.oneCell' = true := by
  intro v hv
  unfold ints at hv
  obtain ⟨j, _, rfl⟩ := List.mem_map.1 hv
  rfl
end

end Go.Proofs.Ytdblngaacnpgmaa

namespace Go.Proofs.Ytdblngaacnpgmaa
open Go
set_option linter.unusedVariables false
set_option linter.unusedSimpArgs false

theorem sumN_split {a : Nat} {f : Nat → Int} : ∀ {b : Nat}, sumN (a + b) f = sumN a f + sumN b fun i => f (a + i)
  | 0 => by show sumN a f = sumN a f + 0; omega
  | b + 1 => by
    show sumN (a + b) f + f (a + b) = sumN a f + (sumN b (fun i => f (a + i)) + f (a + b))
    rw [sumN_split]; omega
/-- A graph that may be somewhat too large for the program. -/
structure Gm (n m : Nat) (es : Nat → Ed) : Prop where
  n1 : n ≤ 1100
  m1 : m ≤ 8000
  f : ∀ i, i < m → ∃ v : Nat, (es i).f = v ∧ v < n
  t : ∀ i, i < m → ∃ v : Nat, (es i).t = v ∧ v < n
  c : ∀ i, i < m → 0 ≤ (es i).c ∧ (es i).c ≤ 1048576
  k : ∀ i, i < m → -1048576 ≤ (es i).k ∧ (es i).k ≤ 1048576
theorem Gd.gm {n m : Nat} {es : Nat → Ed} (g : Gd n m es) : Gm n m es := ⟨by have := g.n1; omega, by have := g.m1; omega, g.f, g.t, g.c, g.k⟩
theorem Gm.fr {n m : Nat} {es : Nat → Ed} (g : Gm n m es) {i : Nat} (hi : i < m) : (es i).f = (frE es i : Nat) ∧ frE es i < n := by
  obtain ⟨v, e, hv⟩ := g.f i hi
  unfold frE
  rw [e]; exact ⟨by simp, by simpa using hv⟩
theorem Gm.to {n m : Nat} {es : Nat → Ed} (g : Gm n m es) {i : Nat} (hi : i < m) : (es i).t = (toE es i : Nat) ∧ toE es i < n := by
  obtain ⟨v, e, hv⟩ := g.t i hi
  unfold toE
  rw [e]; exact ⟨by simp, by simpa using hv⟩
theorem Gm.ends {n m : Nat} {es : Nat → Ed} (g : Gm n m es) : ∀ i, i < m → frE es i < n ∧ toE es i < n := fun i hi => ⟨(g.fr hi).2, (g.to hi).2⟩
theorem Gm.w {n m : Nat} {es : Nat → Ed} (g : Gm n m es) : Gw n m es :=
  ⟨by have := g.n1; omega, by have := g.m1; omega, fun i hi => g.fr hi, fun i hi => g.to hi, g.c, g.k⟩
end Go.Proofs.Ytdblngaacnpgmaa

namespace Go.Proofs.Ytdblngaacnpgmaa
open Go
open Classical
set_option linter.unusedVariables false
set_option linter.unusedSimpArgs false

section
variable {h : H} {w : List Value} {n m : Nat} {es : Nat → Ed} {sv : Value} {bf : Nat → Int}
/-- The first ones. -/
theorem RS.take {v : Value} {a b : Nat} {f : Nat → Int} (s : RS h v (ints (a + b) f)) (hc : capV v) (hb : 0 < b) : ∃ ad l c, v = .slice ad l c ∧ l = a + b ∧ a ≤ c ∧ RS h (sliceV ad c 0 (a : Int) 1) (ints a f) := by
  obtain ⟨ad, c, e, k⟩ := s
  obtain ⟨ad2, l2, c2, e2, hle⟩ := hc
  rw [e] at e2
  simp only [Value.slice.injEq] at e2
  obtain ⟨rfl, rfl, rfl⟩ := e2
  rw [ints_length] at hle e
  obtain ⟨a0, ha0, _⟩ := k 0 _ (ints_get (show 0 < a + b by omega))
  subst ha0
  refine ⟨some a0, a + b, c, e, rfl, by omega, ⟨some a0, c, ?_, fun j x hj => ?_⟩⟩
  · unfold sliceV
    rw [if_neg (show ¬ c = (0 : Int).toNat by simp; omega)]
    simp [Addr.add, ints_length]
  · have hl := (List.getElem?_eq_some_iff.1 hj).1
    rw [ints_length] at hl
    refine k j x ?_
    rw [ints_get (by omega)]
    rwa [ints_get hl] at hj
end

end Go.Proofs.Ytdblngaacnpgmaa

namespace Go.Proofs.Ytdblngaacnpgmaa
open Go
set_option linter.unusedVariables false
set_option linter.unusedSimpArgs false

theorem Bl.rs {h : H} {b : Nat} {vs : List Value} (B : Bl h b vs) : RS h (.slice (some (bk b)) vs.length vs.length) vs := by
  refine ⟨_, _, rfl, fun j x hj => ⟨_, rfl, ?_⟩⟩
  rw [Nat.mul_one]; exact B.ld hj
section
variable {h : H} {own : Own} {n m l : Nat} {es : Nat → Ed} {bf f p : Nat → Int} {vs von vp : Value}
theorem PlanR.one (P : PlanR own h n m es bf vs von vp f p) : ∀ v ∈ plV vs von vp, v.oneCell' = true := by
  intro v hv
  simp only [List.mem_cons, List.not_mem_nil, or_false] at hv
  rcases hv with rfl | rfl | rfl
  · exact P.s.one
  · exact P.o.one
  · exact P.po.one
end

end Go.Proofs.Ytdblngaacnpgmaa

namespace Go.Proofs.Ytdblngaacnpgmaa
open Go
set_option linter.unusedVariables false
set_option linter.unusedSimpArgs false

theorem farI_eq : farI = 4611686018427387904 := rfl
/-- The columns that a row may have. -/
def al (wd u c : Nat) : Prop := c < wd ∨ c = wd + u
instance {wd u c : Nat} : Decidable (al wd u c) := by unfold al; infer_instance
def wt (wd : Nat) (W : Nat → Nat → Int) (u c : Nat) : Int := if c < wd then W u c else 0
/-- The first k rows have columns. -/
structure HgP (N wd k : Nat) (W : Nat → Nat → Int) (p q row : Nat → Int) : Prop where
  fe : ∀ u, u < k → ∀ c, c < N → al wd u c → wt wd W u c ≤ p u + q c
  ma : ∀ c, c < N → (row c = -1 ∧ q c = 0) ∨ ∃ u : Nat, u < k ∧ row c = u ∧ al wd u c ∧ p u + q c = wt wd W u c
  inj : ∀ c c' : Nat, c < N → c' < N → 0 ≤ row c → row c = row c' → c = c'
  on : ∀ u, u < k → ∃ c, c < N ∧ row c = u
  q0 : ∀ c, c < N → 0 ≤ q c ∧ q c ≤ k * 1048576
  p0 : ∀ u, k ≤ u → p u = 0
  p1 : ∀ u, u < k → p u ≤ 1048576
/-- By how much the potentials are more. -/
def gp (wd : Nat) (W : Nat → Nat → Int) (p q : Nat → Int) (u c : Nat) : Int := p u + q c - wt wd W u c
/-- How a column was come to. -/
def FrP (N wd v : Nat) (W : Nat → Nat → Int) (p q row frm : Nat → Int) (done : Nat → Bool) (rk : Nat → Nat) (c : Nat) (g : Int) : Prop :=
  (frm c = -1 ∧ al wd v c ∧ gp wd W p q v c = g) ∨ ∃ b u : Nat, frm c = b ∧ b < N ∧ done b = true ∧ row b = u ∧ al wd u c ∧ gp wd W p q u c = g ∧ (done c = true → rk b < rk c)
/-- A row looks for a column: X are the rows of those that were come to and looked from. -/
structure TkP (N wd v : Nat) (W : Nat → Nat → Int) (row : Nat → Int) (P : Int) (p q least frm : Nat → Int) (done : Nat → Bool) (rk : Nat → Nat) (t : Nat) (R : List Nat) (X : Nat → Prop) : Prop where
  fe : ∀ u, u < v + 1 → ∀ c, c < N → al wd u c → wt wd W u c ≤ p u + q c
  ma : ∀ c, c < N → (row c = -1 ∧ q c = 0 ∧ done c = false) ∨ ∃ u : Nat, u < v ∧ row c = u ∧ al wd u c ∧ p u + q c = wt wd W u c
  inj : ∀ c c' : Nat, c < N → c' < N → 0 ≤ row c → row c = row c' → c = c'
  on : ∀ u, u < v → ∃ c, c < N ∧ row c = u
  q0 : ∀ c, c < N → 0 ≤ q c ∧ q c ≤ v * 1048576 + (P - p v)
  pv : 0 ≤ p v ∧ p v ≤ P ∧ P ≤ 1048576
  p0 : ∀ u, v < u → p u = 0
  p1 : ∀ u, u < v → p u ≤ 1048576
  rr : ∀ u : Nat, u ∈ R ↔ u = v ∨ ∃ c, c < N ∧ done c = true ∧ row c = u
  nd : R.Nodup
  sc : ∀ u, X u → ∀ c, c < N → done c = false → al wd u c → least c ≤ gp wd W p q u c
  lf : ∀ c, c < N → (done c = false ∧ least c = farI) ∨ (done c = false ∧ FrP N wd v W p q row frm done rk c (least c)) ∨ (done c = true ∧ FrP N wd v W p q row frm done rk c 0)
  rk : ∀ c, c < N → done c = true → rk c < t

section
variable {N wd v k : Nat} {W : Nat → Nat → Int} {row p q least frm : Nat → Int} {P : Int} {done : Nat → Bool} {rk : Nat → Nat} {t : Nat} {R : List Nat} {X : Nat → Prop} {a c h : Nat} {g : Int}
theorem gp_eq (u c : Nat) : gp wd W p q u c = p u + q c - wt wd W u c := rfl
theorem TkP.gp0 (T : TkP N wd v W row P p q least frm done rk t R X) {u c : Nat} (hu : u < v + 1) (hc : c < N) (ha : al wd u c) : 0 ≤ gp wd W p q u c := by
  have := T.fe u hu c hc ha
  rw [gp_eq]; omega
theorem TkP.rlt (T : TkP N wd v W row P p q least frm done rk t R X) {u : Nat} (hu : u ∈ R) : u < v + 1 := by
  rcases (T.rr u).1 hu with rfl | ⟨c, hc, hd, hr⟩
  · omega
  · rcases T.ma c hc with ⟨h, _⟩ | ⟨u', h1, h2, _⟩
    · omega
    · omega
/-- Where rows are below 0 at least. -/
theorem TkP.pb (T : TkP N wd v W row P p q least frm done rk t R X) (hN : ∀ u, u < v + 1 → wd + u < N) {u : Nat} (hu : u < v + 1) : -((v + 1) * 1048576 : Int) ≤ p u ∧ p u ≤ 1048576 := by
  have a := T.fe u hu (wd + u) (hN u hu) (.inr rfl)
  have b := T.q0 (wd + u) (hN u hu)
  have c := T.pv
  have e : wt wd W u (wd + u) = 0 := by unfold wt; rw [if_neg (by omega)]
  refine ⟨by omega, ?_⟩
  by_cases h : u = v
  · subst h; omega
  · exact T.p1 u (by omega)
theorem TkP.gb (T : TkP N wd v W row P p q least frm done rk t R X) (hW : ∀ u c, 0 ≤ wt wd W u c) (hv : v ≤ 1024) {u c : Nat} (hu : u < v + 1) (hc : c < N) : gp wd W p q u c ≤ 1075838976 := by
  have b := T.q0 c hc
  have d := T.pv
  have e := hW u c
  rw [gp_eq]
  by_cases h : u = v
  · subst h; omega
  · have := T.p1 u (by omega); omega
theorem FrP.lt (h : FrP N wd v W p q row frm done rk c g) (T : TkP N wd v W row P p q least frm done rk t R X) (hW : ∀ u c, 0 ≤ wt wd W u c) (hv : v ≤ 1024) (hc : c < N) : 0 ≤ g ∧ g ≤ 1075838976 := by
  rcases h with ⟨_, h2, h3⟩ | ⟨b, u, h1, h2, h3, h4, h5, h6, _⟩
  · rw [← h3]; exact ⟨T.gp0 (by omega) hc h2, T.gb hW hv (by omega) hc⟩
  · have hu := T.rlt ((T.rr u).2 (.inr ⟨b, h2, h3, h4⟩))
    rw [← h6]; exact ⟨T.gp0 hu hc h5, T.gb hW hv hu hc⟩
/-- The start. -/
theorem HgP.take (G : HgP N wd v W p q row) (hp : p v = 0) {P : Int} (hP : 0 ≤ P ∧ P ≤ 1048576) (hf : ∀ c, c < N → al wd v c → wt wd W v c ≤ P + q c) (rk : Nat → Nat) :
    TkP N wd v W row P (upd p v P) q (fun _ => farI) (fun _ => -1) (fun _ => false) rk 0 [v] (fun _ => False) := by
  have hne : ∀ u, u < v → upd p v P u = p u := fun u hu => upd_ne (by omega)
  refine ⟨fun u hu c hc ha => ?_, fun c hc => ?_, G.inj, G.on, fun c hc => ?_, ?_, fun u hu => ?_, fun u hu => ?_, fun u => ?_, by simp, fun u h => h.elim, fun c hc => .inl ⟨rfl, rfl⟩, fun c hc h => by cases h⟩
  · by_cases e : u = v
    · subst e; rw [upd_at]; exact hf c hc ha
    · rw [hne u (by omega)]; exact G.fe u (by omega) c hc ha
  · rcases G.ma c hc with ⟨h1, h2⟩ | ⟨u, h1, h2, h3, h4⟩
    · exact .inl ⟨h1, h2, rfl⟩
    · exact .inr ⟨u, h1, h2, h3, by rw [hne u h1]; exact h4⟩
  · rw [upd_at]
    have := G.q0 c hc
    omega
  · rw [upd_at]; omega
  · rw [upd_ne (by omega)]; exact G.p0 u (by omega)
  · rw [hne u hu]; exact G.p1 u hu
  · simp
theorem TkP.wk {X' : Nat → Prop} (T : TkP N wd v W row P p q least frm done rk t R X) (h : ∀ u, X' u → X u) : TkP N wd v W row P p q least frm done rk t R X' :=
  ⟨T.fe, T.ma, T.inj, T.on, T.q0, T.pv, T.p0, T.p1, T.rr, T.nd, fun u hu => T.sc u (h u hu), T.lf, T.rk⟩
/-- The row's own column is not done. -/
theorem TkP.own (T : TkP N wd v W row P p q least frm done rk t R X) (hN : wd + v < N) : done (wd + v) = false ∧ q (wd + v) = 0 := by
  rcases T.ma (wd + v) hN with ⟨_, h2, h3⟩ | ⟨u, h1, h2, h3, _⟩
  · exact ⟨h3, h2⟩
  · rcases h3 with h3 | h3 <;> omega
theorem TkP.lb (T : TkP N wd v W row P p q least frm done rk t R X) (hW : ∀ u c, 0 ≤ wt wd W u c) (hv : v ≤ 1024) (hc : c < N) (hd : done c = false) (hl : least c < farI) : 0 ≤ least c ∧ least c ≤ 1075838976 := by
  rcases T.lf c hc with ⟨_, h⟩ | ⟨_, h⟩ | ⟨h, _⟩
  · omega
  · exact FrP.lt h T hW hv hc
  · rw [hd] at h; cases h
/-- What a look from a row finds. -/
def scL (N wd : Nat) (W : Nat → Nat → Int) (p q least : Nat → Int) (done : Nat → Bool) (a j c : Nat) : Int := if c < j ∧ done c = false ∧ al wd a c ∧ gp wd W p q a c < least c then gp wd W p q a c else least c
def scF (N wd : Nat) (W : Nat → Nat → Int) (p q least frm : Nat → Int) (done : Nat → Bool) (a : Nat) (inn : Int) (j c : Nat) : Int := if c < j ∧ done c = false ∧ al wd a c ∧ gp wd W p q a c < least c then inn else frm c
theorem TkP.scan (T : TkP N wd v W row P p q least frm done rk t R (fun u => u ∈ R ∧ u ≠ a)) {inn : Int} (hi : (inn = -1 ∧ a = v) ∨ ∃ b : Nat, b < N ∧ inn = b ∧ done b = true ∧ row b = a) :
    TkP N wd v W row P p q (scL N wd W p q least done a N) (scF N wd W p q least frm done a inn N) done rk t R (fun u => u ∈ R) := by
  refine ⟨T.fe, T.ma, T.inj, T.on, T.q0, T.pv, T.p0, T.p1, T.rr, T.nd, fun u hu c hc hd ha => ?_, fun c hc => ?_, T.rk⟩
  · unfold scL
    by_cases h : c < N ∧ done c = false ∧ al wd a c ∧ gp wd W p q a c < least c
    · rw [if_pos h]
      by_cases e : u = a
      · subst e; exact Int.le_refl _
      · have := T.sc u ⟨hu, e⟩ c hc hd ha
        omega
    · rw [if_neg h]
      by_cases e : u = a
      · subst e
        have : ¬ gp wd W p q u c < least c := fun h2 => h ⟨hc, hd, ha, h2⟩
        omega
      · exact T.sc u ⟨hu, e⟩ c hc hd ha
  · unfold scL
    by_cases h : c < N ∧ done c = false ∧ al wd a c ∧ gp wd W p q a c < least c
    · rw [if_pos h]
      refine .inr (.inl ⟨h.2.1, ?_⟩)
      unfold FrP scF
      rw [if_pos h]
      rcases hi with ⟨h1, rfl⟩ | ⟨b, h1, h2, h3, h4⟩
      · exact .inl ⟨h1, h.2.2.1, rfl⟩
      · exact .inr ⟨b, a, h2, h1, h3, h4, h.2.2.1, rfl, fun h5 => by rw [h.2.1] at h5; cases h5⟩
    · rw [if_neg h]
      have e : scF N wd W p q least frm done a inn N c = frm c := if_neg h
      rcases T.lf c hc with h1 | ⟨h1, h2⟩ | ⟨h1, h2⟩
      · exact .inl h1
      · refine .inr (.inl ⟨h1, ?_⟩)
        unfold FrP at *
        rw [e]; exact h2
      · refine .inr (.inr ⟨h1, ?_⟩)
        unfold FrP at *
        rw [e]; exact h2
/-- The potentials are changed. -/
def upP (p : Nat → Int) (R : List Nat) (less : Int) (u : Nat) : Int := if u ∈ R then p u - less else p u
def upQ (q : Nat → Int) (done : Nat → Bool) (less : Int) (j c : Nat) : Int := if c < j ∧ done c = true then q c + less else q c
def upL (least : Nat → Int) (done : Nat → Bool) (less : Int) (j c : Nat) : Int := if c < j ∧ done c = false ∧ least c < farI then least c - less else least c
theorem TkP.upd (T : TkP N wd v W row P p q least frm done rk t R (fun u => u ∈ R)) {nx : Nat} (hnx : nx < N) (hd : done nx = false) (hl : least nx < farI) (hm : ∀ c, c < N → done c = false → least nx ≤ least c) (hN : wd + v < N) (hW : ∀ u c, 0 ≤ wt wd W u c) (hv : v ≤ 1024) :
    0 ≤ least nx ∧ TkP N wd v W row P (upP p R (least nx)) (upQ q done (least nx) N) (upL least done (least nx) N) frm done rk t R (fun u => u ∈ R) ∧ upL least done (least nx) N nx = 0 := by
  have l0 : 0 ≤ least nx := by
    rcases T.lf nx hnx with ⟨_, h⟩ | ⟨_, h⟩ | ⟨h, _⟩
    · omega
    · exact (FrP.lt h T hW hv hnx).1
    · rw [hd] at h; cases h
  generalize hX : least nx = x at *
  have vR : v ∈ R := (T.rr v).2 (.inl rfl)
  -- the row's own column is not done
  have ow : done (wd + v) = false ∧ q (wd + v) = 0 := by
    rcases T.ma (wd + v) hN with ⟨_, h2, h3⟩ | ⟨u, h1, h2, h3, _⟩
    · exact ⟨h3, h2⟩
    · rcases h3 with h3 | h3 <;> omega
  have xv : x ≤ p v := by
    have h1 := T.sc v vR (wd + v) hN ow.1 (.inr rfl)
    have h2 := hm _ hN ow.1
    have e : wt wd W v (wd + v) = 0 := by unfold wt; rw [if_neg (by omega)]
    rw [gp_eq, e, ow.2] at h1
    omega
  have qq : ∀ c, c < N → upQ q done x N c = if done c = true then q c + x else q c := fun c hc => by
    unfold upQ
    by_cases h : done c = true
    · rw [if_pos ⟨hc, h⟩, if_pos h]
    · rw [if_neg (fun h2 => h h2.2), if_neg h]
  -- the sums
  have gu : ∀ u c, c < N → u ∈ R → gp wd W (upP p R x) (upQ q done x N) u c = if done c = true then gp wd W p q u c else gp wd W p q u c - x := fun u c hc hu => by
    rw [gp_eq, qq c hc]
    unfold upP
    rw [if_pos hu]
    split <;> rw [gp_eq] <;> omega
  have tg : ∀ u c, c < N → u < v → row c = (u : Int) → ((u ∈ R) ↔ done c = true) := fun u c hc hu hr => by
    refine ⟨fun h => ?_, fun h => (T.rr u).2 (.inr ⟨c, hc, h, hr⟩)⟩
    rcases (T.rr u).1 h with h | ⟨c', hc', hd', hr'⟩
    · omega
    · have := T.inj c c' hc hc' (by omega) (by omega)
      subst this; exact hd'
  have frp : ∀ c, c < N → ∀ g, FrP N wd v W p q row frm done rk c g → FrP N wd v W (upP p R x) (upQ q done x N) row frm done rk c (if done c = true then g else g - x) := fun c hc g h => by
    rcases h with ⟨h1, h2, h3⟩ | ⟨b, u, h1, h2, h3, h4, h5, h6, h7⟩
    · refine .inl ⟨h1, h2, ?_⟩
      rw [gu v c hc vR, h3]
    · refine .inr ⟨b, u, h1, h2, h3, h4, h5, ?_, h7⟩
      rw [gu u c hc ((T.rr u).2 (.inr ⟨b, h2, h3, h4⟩)), h6]
  refine ⟨l0, ⟨fun u hu c hc ha => ?_, fun c hc => ?_, T.inj, T.on, fun c hc => ?_, ?_, fun u hu => ?_, fun u hu => ?_, T.rr, T.nd, fun u hu c hc hdc ha => ?_, fun c hc => ?_, T.rk⟩, ?_⟩
  · rw [qq c hc]
    have h := T.fe u hu c hc ha
    unfold upP
    by_cases hR : u ∈ R
    · rw [if_pos hR]
      by_cases hdc : done c = true
      · rw [if_pos hdc]; omega
      · rw [if_neg hdc]
        have hdc : done c = false := by simpa using hdc
        have h1 := T.sc u hR c hc hdc ha
        have h2 := hm c hc hdc
        rw [gp_eq] at h1; omega
    · rw [if_neg hR]; split <;> omega
  · rcases T.ma c hc with ⟨h1, h2, h3⟩ | ⟨u, h1, h2, h3, h4⟩
    · refine .inl ⟨h1, ?_, h3⟩
      rw [qq c hc, if_neg (by rw [h3]; simp)]; exact h2
    · refine .inr ⟨u, h1, h2, h3, ?_⟩
      rw [qq c hc]
      unfold upP
      by_cases hR : u ∈ R
      · rw [if_pos hR, if_pos ((tg u c hc h1 h2).1 hR)]; omega
      · rw [if_neg hR, if_neg (fun h => hR ((tg u c hc h1 h2).2 h))]; exact h4
  · have h := T.q0 c hc
    have e : upP p R x v = p v - x := if_pos vR
    rw [qq c hc, e]
    split <;> omega
  · have e : upP p R x v = p v - x := if_pos vR
    have := T.pv
    rw [e]; omega
  · have : u ∉ R := fun h => by have := T.rlt h; omega
    unfold upP
    rw [if_neg this]; exact T.p0 u hu
  · have := T.p1 u hu
    unfold upP; split <;> omega
  · rw [gu u c hc hu, if_neg (by rw [hdc]; simp)]
    have h1 := T.sc u hu c hc hdc ha
    unfold upL
    split
    · omega
    · rename_i h
      have : ¬ least c < farI := fun h2 => h ⟨hc, hdc, h2⟩
      -- such a column was not looked at from here
      exfalso
      have := T.gb hW hv (T.rlt hu) hc
      have := farI_eq
      omega
  · rcases T.lf c hc with ⟨h1, h2⟩ | ⟨h1, h2⟩ | ⟨h1, h2⟩
    · refine .inl ⟨h1, ?_⟩
      unfold upL
      rw [if_neg (by rintro ⟨_, _, h⟩; omega)]; exact h2
    · have := frp c hc _ h2
      rw [if_neg (by rw [h1]; simp)] at this
      have hb := (FrP.lt h2 T hW hv hc).2
      refine .inr (.inl ⟨h1, ?_⟩)
      unfold upL
      have := farI_eq
      rw [if_pos ⟨hc, h1, by omega⟩]; assumption
    · have := frp c hc _ h2
      rw [if_pos h1] at this
      exact .inr (.inr ⟨h1, this⟩)
  · unfold upL
    rw [if_pos ⟨hnx, hd, by omega⟩, hX]; omega
/-- The next column has a row: it is looked from next. -/
theorem TkP.more (T : TkP N wd v W row P p q least frm done rk t R (fun u => u ∈ R)) {nx a : Nat} (hnx : nx < N) (hd : done nx = false) (hl : least nx = 0) (hr : row nx = a) :
    TkP N wd v W row P p q least frm (updB done nx true) (fun c => if c = nx then t else rk c) (t + 1) (R ++ [a]) (fun u => u ∈ R ++ [a] ∧ u ≠ a) ∧ a ∉ R ∧ a < v := by
  have hN : done nx = false := hd
  have av : a < v := by
    rcases T.ma nx hnx with ⟨h, _⟩ | ⟨u, h1, h2, _⟩ <;> omega
  have na : a ∉ R := fun h => by
    rcases (T.rr a).1 h with h | ⟨c, hc, h1, h2⟩
    · omega
    · have := T.inj nx c hnx hc (by omega) (by omega)
      subst this; rw [hd] at h1; cases h1
  have ud : ∀ c, updB done nx true c = true ↔ c = nx ∨ done c = true := fun c => by
    unfold updB
    by_cases e : c = nx
    · simp [e]
    · simp [e]
  have uf : ∀ c, updB done nx true c = false ↔ c ≠ nx ∧ done c = false := fun c => by
    unfold updB
    by_cases e : c = nx
    · simp [e]
    · simp [e]
  have rkne : ∀ c, c ≠ nx → (if c = nx then t else rk c) = rk c := fun c h => if_neg h
  have frp : ∀ c, c < N → ∀ g, FrP N wd v W p q row frm done rk c g → FrP N wd v W p q row frm (updB done nx true) (fun c => if c = nx then t else rk c) c g := fun c hc g h => by
    rcases h with h | ⟨b, u, h1, h2, h3, h4, h5, h6, h7⟩
    · exact .inl h
    · have bn : b ≠ nx := fun e => by rw [e, hd] at h3; cases h3
      refine .inr ⟨b, u, h1, h2, (ud b).2 (.inr h3), h4, h5, h6, fun hc2 => ?_⟩
      show (if b = nx then t else rk b) < (if c = nx then t else rk c)
      rw [if_neg bn]
      rcases (ud c).1 hc2 with e | e
      · rw [if_pos e]; exact T.rk b h2 h3
      · rw [if_neg (fun e2 => by rw [e2, hd] at e; cases e)]; exact h7 e
  refine ⟨⟨T.fe, fun c hc => ?_, T.inj, T.on, T.q0, T.pv, T.p0, T.p1, fun u => ?_, ?_, fun u hu c hc hdc ha => ?_, fun c hc => ?_, fun c hc h => ?_⟩, na, av⟩
  · rcases T.ma c hc with ⟨h1, h2, h3⟩ | h
    · refine .inl ⟨h1, h2, (uf c).2 ⟨fun e => ?_, h3⟩⟩
      rw [e, hr] at h1; omega
    · exact .inr h
  · rw [List.mem_append, List.mem_singleton, T.rr]
    constructor
    · rintro ((h | ⟨c, hc, h1, h2⟩) | rfl)
      · exact .inl h
      · exact .inr ⟨c, hc, (ud c).2 (.inr h1), h2⟩
      · exact .inr ⟨nx, hnx, (ud nx).2 (.inl rfl), hr⟩
    · rintro (h | ⟨c, hc, h1, h2⟩)
      · exact .inl (.inl h)
      · rcases (ud c).1 h1 with rfl | h1
        · exact .inr (by omega)
        · exact .inl (.inr ⟨c, hc, h1, h2⟩)
  · rw [List.nodup_append]
    refine ⟨T.nd, by simp, fun x hx y hy => ?_⟩
    rw [List.mem_singleton] at hy
    rintro rfl
    rw [hy] at hx; exact na hx
  · have hu2 : u ∈ R := by
      have := hu.1
      rw [List.mem_append, List.mem_singleton] at this
      rcases this with h | h
      · exact h
      · exact absurd h hu.2
    exact T.sc u hu2 c hc ((uf c).1 hdc).2 ha
  · by_cases e : c = nx
    · refine .inr (.inr ⟨(ud c).2 (.inl e), ?_⟩)
      rcases T.lf c hc with ⟨_, h2⟩ | ⟨_, h2⟩ | ⟨h1, _⟩
      · rw [e, hl] at h2; exact absurd h2 (by decide)
      · rw [e, hl, ← e] at h2; exact frp c hc _ h2
      · rw [e, hd] at h1; cases h1
    · rcases T.lf c hc with ⟨h1, h2⟩ | ⟨h1, h2⟩ | ⟨h1, h2⟩
      · exact .inl ⟨(uf c).2 ⟨e, h1⟩, h2⟩
      · exact .inr (.inl ⟨(uf c).2 ⟨e, h1⟩, frp c hc _ h2⟩)
      · exact .inr (.inr ⟨(ud c).2 (.inr h1), frp c hc _ h2⟩)
  · show (if c = nx then t else rk c) < t + 1
    rcases (ud c).1 h with e | e
    · rw [if_pos e]; omega
    · have := T.rk c hc e
      split <;> omega
/-- A way back: the column h has no row of its own yet. -/
structure HlP (N wd v : Nat) (W : Nat → Nat → Int) (p q row frm : Nat → Int) (done : Nat → Bool) (rk : Nat → Nat) (h : Nat) : Prop where
  hh : h < N
  fe : ∀ u, u < v + 1 → ∀ c, c < N → al wd u c → wt wd W u c ≤ p u + q c
  ma : ∀ x, x < N → x ≠ h → (row x = -1 ∧ q x = 0) ∨ ∃ u : Nat, u < v ∧ row x = u ∧ al wd u x ∧ p u + q x = wt wd W u x
  inj : ∀ x x' : Nat, x < N → x' < N → x ≠ h → x' ≠ h → 0 ≤ row x → row x = row x' → x = x'
  on : ∀ u, u < v → ∃ x, x < N ∧ x ≠ h ∧ row x = u
  q0 : ∀ c, c < N → 0 ≤ q c ∧ q c ≤ (v + 1 : Nat) * 1048576
  p0 : ∀ u, v < u → p u = 0
  p1 : ∀ u, u < v + 1 → p u ≤ 1048576
  tr : ∀ x, x < N → (x = h ∨ (done x = true ∧ rk x < rk h)) → (frm x = -1 ∧ al wd v x ∧ p v + q x = wt wd W v x) ∨ ∃ b u : Nat, frm x = b ∧ b < N ∧ done b = true ∧ rk b < rk x ∧ row b = u ∧ u < v ∧ al wd u x ∧ p u + q x = wt wd W u x
theorem TkP.hole (T : TkP N wd v W row P p q least frm done rk t R (fun u => u ∈ R)) {nx : Nat} (hnx : nx < N) (hd : done nx = false) (hl : least nx = 0) (hr : row nx = -1) :
    HlP N wd v W p q row frm done (fun c => if c = nx then t else rk c) nx := by
  have b2 := T.pv
  refine ⟨hnx, T.fe, fun x hx hne => ?_, fun x x' hx hx' _ _ => T.inj x x' hx hx', fun u hu => ?_, fun c hc => ?_, T.p0, fun u hu => ?_, fun x hx h => ?_⟩
  · rcases T.ma x hx with ⟨h1, h2, _⟩ | h
    · exact .inl ⟨h1, h2⟩
    · exact .inr h
  · obtain ⟨c, hc, h1⟩ := T.on u hu
    exact ⟨c, hc, fun e => by rw [e, hr] at h1; omega, h1⟩
  · have := T.q0 c hc
    omega
  · by_cases e : u = v
    · subst e; omega
    · exact T.p1 u (by omega)
  · have key : ∃ g, g = 0 ∧ FrP N wd v W p q row frm done rk x g ∧ (x = nx ∨ done x = true) := by
      rcases h with rfl | ⟨h1, _⟩
      · rcases T.lf x hx with ⟨_, h2⟩ | ⟨_, h2⟩ | ⟨h1, _⟩
        · rw [hl] at h2; exact absurd h2 (by decide)
        · exact ⟨_, hl, h2, .inl rfl⟩
        · rw [hd] at h1; cases h1
      · rcases T.lf x hx with ⟨h2, _⟩ | ⟨h2, _⟩ | ⟨_, h2⟩
        · rw [h1] at h2; cases h2
        · rw [h1] at h2; cases h2
        · exact ⟨0, rfl, h2, .inr h1⟩
    obtain ⟨g, rfl, h2, hx2⟩ := key
    rcases h2 with ⟨h3, h4, h5⟩ | ⟨b, u, h3, h4, h5, h6, h7, h8, h9⟩
    · rw [gp_eq] at h5
      exact .inl ⟨h3, h4, by omega⟩
    · have bn : b ≠ nx := fun e => by rw [e, hd] at h5; cases h5
      rw [gp_eq] at h8
      refine .inr ⟨b, u, h3, h4, h5, ?_, h6, ?_, h7, by omega⟩
      · show (if b = nx then t else rk b) < (if x = nx then t else rk x)
        rw [if_neg bn]
        by_cases e : x = nx
        · rw [if_pos e]; exact T.rk b h4 h5
        · rw [if_neg e]
          rcases hx2 with h | h
          · exact absurd h e
          · exact h9 h
      · rcases T.ma b h4 with ⟨h, _⟩ | ⟨u', h, h', _⟩ <;> omega
theorem HlP.step (G : HlP N wd v W p q row frm done rk h) {b : Nat} (hb : frm h = b) : HlP N wd v W p q (upd row h (row b)) frm done rk b ∧ rk b < rk h ∧ b < N := by
  rcases G.tr h G.hh (.inl rfl) with ⟨h1, _⟩ | ⟨b', u, h1, h2, h3, h4, h5, h6, h7, h8⟩
  · omega
  have : b' = b := by omega
  subst this
  have bh : b' ≠ h := fun e => by rw [e] at h4; omega
  have ro : ∀ x, x ≠ h → upd row h (row b') x = row x := fun x hx => upd_ne hx
  refine ⟨⟨h2, G.fe, fun x hx hne => ?_, fun x x' hx hx' n1 n2 => ?_, fun w hw => ?_, G.q0, G.p0, G.p1, fun x hx hd => ?_⟩, h4, h2⟩
  · by_cases e : x = h
    · subst e; rw [upd_at]; exact .inr ⟨u, h6, h5, h7, h8⟩
    · rw [ro x e]; exact G.ma x hx e
  · by_cases e : x = h
    · subst e
      rw [upd_at]
      by_cases e' : x' = x
      · exact fun _ _ => e'.symm
      · rw [ro x' e']
        intro h0 h9
        exact absurd (G.inj b' x' h2 hx' bh e' h0 h9).symm n2
    · rw [ro x e]
      by_cases e' : x' = h
      · subst e'
        rw [upd_at]
        intro h0 h9
        exact absurd (G.inj x b' hx h2 e bh h0 h9) n1
      · rw [ro x' e']
        exact G.inj x x' hx hx' e e'
  · obtain ⟨x, hx, h9, h10⟩ := G.on w hw
    by_cases e : x = b'
    · subst e
      exact ⟨h, G.hh, fun e => bh e.symm, by rw [upd_at]; exact h10⟩
    · exact ⟨x, hx, e, by rw [ro x h9]; exact h10⟩
  · have xr : rk x ≤ rk b' := by
      rcases hd with rfl | ⟨_, h⟩ <;> omega
    have xd : done x = true := by
      rcases hd with rfl | ⟨h, _⟩
      · exact h3
      · exact h
    rcases G.tr x hx (.inr ⟨xd, by omega⟩) with h9 | ⟨b2, u2, k1, k2, k3, k4, k5, k6, k7, k8⟩
    · exact .inl h9
    · refine .inr ⟨b2, u2, k1, k2, k3, k4, ?_, k6, k7, k8⟩
      rw [ro b2 (by rintro rfl; omega)]; exact k5
theorem HlP.last (G : HlP N wd v W p q row frm done rk h) (hb : frm h < 0) : HgP N wd (v + 1) W p q (upd row h v) := by
  rcases G.tr h G.hh (.inl rfl) with ⟨_, h1, h2⟩ | ⟨b, u, h1, _⟩
  rotate_left
  · omega
  have ro : ∀ x, x ≠ h → upd row h (v : Int) x = row x := fun x hx => upd_ne hx
  have rlt : ∀ x, x < N → x ≠ h → row x < v := fun x hx hne => by
    rcases G.ma x hx hne with ⟨h3, _⟩ | ⟨u, h3, h4, _⟩ <;> omega
  refine ⟨G.fe, fun x hx => ?_, fun x x' hx hx' => ?_, fun w hw => ?_, G.q0, fun u hu => G.p0 u (by omega), G.p1⟩
  · by_cases e : x = h
    · subst e; rw [upd_at]; exact .inr ⟨v, by omega, rfl, h1, h2⟩
    · rw [ro x e]
      rcases G.ma x hx e with h3 | ⟨u, h3, h4⟩
      · exact .inl h3
      · exact .inr ⟨u, by omega, h4⟩
  · by_cases e : x = h
    · subst e
      rw [upd_at]
      by_cases e' : x' = x
      · exact fun _ _ => e'.symm
      · rw [ro x' e']
        intro _ h9
        have := rlt x' hx' e'; omega
    · rw [ro x e]
      by_cases e' : x' = h
      · subst e'
        rw [upd_at]
        intro _ h9
        have := rlt x hx e; omega
      · rw [ro x' e']; exact G.inj x x' hx hx' e e'
  · by_cases e : w = v
    · subst e; exact ⟨h, G.hh, upd_at⟩
    · obtain ⟨x, hx, h9, h10⟩ := G.on w (by omega)
      exact ⟨x, hx, by rw [ro x h9]; exact h10⟩
end

end Go.Proofs.Ytdblngaacnpgmaa

namespace Go.Proofs.Ytdblngaacnpgmaa
open Go
set_option linter.unusedVariables false
set_option linter.unusedSimpArgs false

abbrev lfE (es : Nat → Ed) (i : Nat) : Nat := min (frE es i) (toE es i)
abbrev rtE (es : Nat → Ed) (i : Nat) : Nat := max (frE es i) (toE es i)
/-- What edges of a list cost. -/
def lkE (es : Nat → Ed) : List Nat → Int
  | [] => 0
  | i :: l => (es i).k + lkE es l
theorem lkE_app (es : Nat → Ed) : ∀ (a b : List Nat), lkE es (a ++ b) = lkE es a + lkE es b
  | [], b => by show lkE es b = 0 + lkE es b; omega
  | i :: a, b => by
    show (es i).k + lkE es (a ++ b) = (es i).k + lkE es a + lkE es b
    rw [lkE_app]; omega
theorem lkE_perm (es : Nat → Ed) {a b : List Nat} (h : a.Perm b) : lkE es a = lkE es b := by
  induction h with
  | nil => rfl
  | cons x _ ih => show _ + _ = _ + _; rw [ih]
  | swap x y l => show (es y).k + ((es x).k + lkE es l) = (es x).k + ((es y).k + lkE es l); omega
  | trans _ _ ih1 ih2 => exact ih1.trans ih2
/-- A matching of two sides with potentials that prove that none costs more. -/
structure MaR (n m left : Nat) (es : Nat → Ed) (L : List Nat) (pt : Nat → Int) : Prop where
  lt : ∀ i, i ∈ L → i < m
  nd : L.Pairwise fun i j => lfE es i ≠ lfE es j ∧ rtE es i ≠ rtE es j
  po : ∀ v, v < n → 0 ≤ pt v ∧ pt v ≤ 2147483648
  co : ∀ i, i < m → (es i).k ≤ pt (frE es i) + pt (toE es i)
  su : sumN n pt = lkE es L
  ln : L.length ≤ 1024
/-- The heaviest edges between two nodes. -/
structure BsP (left wd m : Nat) (es : Nat → Ed) (bs : Nat → Nat → Nat) : Prop where
  bm : ∀ v c, v < left → c < wd → bs v c ≤ m
  bw : ∀ v c i, v < left → c < wd → bs v c = i + 1 → lfE es i = v ∧ rtE es i = left + c ∧ 0 < (es i).k
  le : ∀ i v c, i < m → v < left → c < wd → lfE es i = v → rtE es i = left + c → 0 < (es i).k → 0 < bs v c ∧ (es i).k ≤ (es (bs v c - 1)).k
/-- What it weighs. -/
def wgE (es : Nat → Ed) (bs : Nat → Nat → Nat) (v c : Nat) : Int := if 0 < bs v c then (es (bs v c - 1)).k else 0
section
variable {N wd v k left m n : Nat} {W : Nat → Nat → Int} {row p q : Nat → Int} {es : Nat → Ed} {bs : Nat → Nat → Nat}
theorem HgP.rc (G : HgP N wd k W p q row) {c : Nat} (hc : c < N) : row c = -1 ∨ (0 ≤ row c ∧ (row c).toNat < k) := by
  rcases G.ma c hc with ⟨h, _⟩ | ⟨u, h1, h2, _⟩
  · exact .inl h
  · exact .inr (by omega)
theorem HgP.sum (G : HgP N wd k W p q row) : sumN k p + sumN N q = sumN N fun c => if 0 ≤ row c then wt wd W (row c).toNat c else 0 := by
  have e1 : (sumN N fun c => if 0 ≤ row c then wt wd W (row c).toNat c else 0) = sumN N (fun c => (if 0 ≤ row c then p (row c).toNat else 0) + q c) := sumN_congr fun c hc => by
    rcases G.ma c hc with ⟨h1, h2⟩ | ⟨u, h1, h2, h3, h4⟩
    · rw [if_neg (by omega), if_neg (by omega), h2]; rfl
    · rw [if_pos (by omega), if_pos (by omega), h2, Int.toNat_natCast]; omega
  have e2 : (sumN N fun c => if 0 ≤ row c then p (row c).toNat else 0) = sumN N (fun c => sumN k fun u => if row c = (u : Int) then p u else 0) := sumN_congr fun c hc => by
    rcases G.rc hc with h | ⟨h1, h2⟩
    · rw [if_neg (by omega)]
      exact (sumN_zero fun u _ => if_neg (by omega)).symm
    · rw [if_pos h1, ← sumN_ptf (f := p) h2]
      refine sumN_congr fun u _ => ?_
      by_cases e : (row c).toNat = u
      · rw [if_pos e, if_pos (by omega)]
      · rw [if_neg e, if_neg (by omega)]
  have e3 : (sumN k fun u => sumN N fun c => if row c = (u : Int) then p u else 0) = sumN k p := sumN_congr fun u hu => by
    obtain ⟨c0, hc0, hr⟩ := G.on u hu
    have : (sumN N fun c => if row c = (u : Int) then p u else 0) = sumN N (fun c => if c0 = c then p u else 0) := sumN_congr fun c hc => by
      by_cases e : c0 = c
      · subst e; rw [if_pos hr, if_pos rfl]
      · rw [if_neg e, if_neg (fun h => e (G.inj c0 c hc0 hc (by omega) (by omega)))]
    rw [this, sumN_pt, if_pos hc0]
  rw [e1, sumN_add, e2, sumN_swap, e3]
/-- Where a row has the column of its own. -/
theorem HgP.own (G : HgP N wd k W p q row) {u : Nat} (hu : u < k) (hN : wd + u < N) : (if p u < 0 then 0 else p u) = p u + q (wd + u) := by
  have a := G.fe u hu _ hN (.inr rfl)
  have b := G.q0 _ hN
  have e : wt wd W u (wd + u) = 0 := by unfold wt; rw [if_neg (by omega)]
  rcases G.ma _ hN with ⟨_, h2⟩ | ⟨u', h1, h2, h3, h4⟩
  · split <;> omega
  · have : u' = u := by
      rcases h3 with h | h <;> omega
    subst this
    split <;> omega
/-- The potentials that are answered. -/
def ptH (left : Nat) (p q : Nat → Int) (v : Nat) : Int := if v < left then (if p v < 0 then 0 else p v) else q (v - left)
/-- The edges of the first j columns. -/
def mlH (bs : Nat → Nat → Nat) (row : Nat → Int) : Nat → List Nat
  | 0 => []
  | j + 1 => mlH bs row j ++ if 0 ≤ row j ∧ 0 < bs (row j).toNat j then [bs (row j).toNat j - 1] else []
theorem mlH_mem {x : Nat} : ∀ {j : Nat}, x ∈ mlH bs row j → ∃ c, c < j ∧ 0 ≤ row c ∧ bs (row c).toNat c = x + 1
  | 0, h => by cases h
  | j + 1, h => by
    have h : x ∈ mlH bs row j ++ if 0 ≤ row j ∧ 0 < bs (row j).toNat j then [bs (row j).toNat j - 1] else [] := h
    rw [List.mem_append] at h
    rcases h with h | h
    · obtain ⟨c, hc, h1, h2⟩ := mlH_mem h
      exact ⟨c, by omega, h1, h2⟩
    · split at h
      · rename_i hh
        rw [List.mem_singleton] at h
        exact ⟨j, by omega, hh.1, by omega⟩
      · cases h
theorem mlH_len : ∀ {j : Nat}, (mlH bs row j).length ≤ j
  | 0 => Nat.le_refl _
  | j + 1 => by
    have := mlH_len (j := j)
    show (mlH bs row j ++ if 0 ≤ row j ∧ 0 < bs (row j).toNat j then [bs (row j).toNat j - 1] else []).length ≤ j + 1
    rw [List.length_append]
    split
    · simp; omega
    · simp; omega
theorem mlH_nd (G : HgP N wd left (wgE es bs) p q row) (hN : N = wd + left) (B : BsP left wd m es bs) : ∀ {j : Nat}, j ≤ wd → (mlH bs row j).Pairwise fun i j => lfE es i ≠ lfE es j ∧ rtE es i ≠ rtE es j
  | 0, _ => List.Pairwise.nil
  | j + 1, hj => by
    show (mlH bs row j ++ if 0 ≤ row j ∧ 0 < bs (row j).toNat j then [bs (row j).toNat j - 1] else []).Pairwise _
    rw [List.pairwise_append]
    refine ⟨mlH_nd G hN B (by omega), ?_, fun x hx y hy => ?_⟩
    · split
      · exact List.pairwise_singleton _ _
      · exact List.Pairwise.nil
    · split at hy
      · rename_i hh
        rw [List.mem_singleton] at hy
        obtain ⟨c, hc, h1, h2⟩ := mlH_mem hx
        rcases G.rc (c := c) (by omega) with h3 | ⟨_, h3⟩
        · omega
        rcases G.rc (c := j) (by omega) with h4 | ⟨_, h4⟩
        · omega
        obtain ⟨a1, a2, _⟩ := B.bw _ c x h3 (by omega) h2
        obtain ⟨b1, b2, _⟩ := B.bw _ j y h4 (by omega) (by omega)
        refine ⟨fun e => ?_, fun e => by omega⟩
        have := G.inj c j (by omega) (by omega) h1 (by omega)
        omega
      · cases hy
theorem mlH_sum (G : HgP N wd left (wgE es bs) p q row) (hN : N = wd + left) : ∀ {j : Nat}, j ≤ wd → lkE es (mlH bs row j) = sumN j fun c => if 0 ≤ row c then wt wd (wgE es bs) (row c).toNat c else 0
  | 0, _ => rfl
  | j + 1, hj => by
    show lkE es (mlH bs row j ++ if 0 ≤ row j ∧ 0 < bs (row j).toNat j then [bs (row j).toNat j - 1] else []) = sumN j _ + (if 0 ≤ row j then wt wd (wgE es bs) (row j).toNat j else 0)
    rw [lkE_app, mlH_sum G hN (by omega)]
    congr 1
    unfold wt wgE
    rw [if_pos (show j < wd by omega)]
    by_cases h : 0 ≤ row j
    · by_cases h2 : 0 < bs (row j).toNat j
      · rw [if_pos ⟨h, h2⟩, if_pos h, if_pos h2]
        show (es _).k + 0 = _
        omega
      · rw [if_neg (fun h3 => h2 h3.2), if_pos h, if_neg h2]; rfl
    · rw [if_neg (fun h3 => h h3.1), if_neg h]; rfl
theorem HgP.res (G : HgP N wd left (wgE es bs) p q row) (hN : N = wd + left) (hl : left + wd ≤ 1024) (B : BsP left wd m es bs) (hs : ∀ i, i < m → lfE es i < left ∧ left ≤ rtE es i ∧ rtE es i < left + wd) :
    MaR (left + wd) m left es (mlH bs row wd) (ptH left p q) := by
  refine ⟨fun i hi => ?_, mlH_nd G hN B (Nat.le_refl _), fun v hv => ?_, fun i hi => ?_, ?_, ?_⟩
  · obtain ⟨c, hc, h1, h2⟩ := mlH_mem hi
    rcases G.rc (c := c) (by omega) with h3 | ⟨_, h3⟩
    · omega
    have := B.bm _ c h3 hc
    omega
  · unfold ptH
    split
    · rename_i h
      have := G.p1 v h
      split <;> omega
    · have := G.q0 (v - left) (by omega)
      omega
  · obtain ⟨a1, a2, a3⟩ := hs i hi
    have po : ∀ v, v < left → p v ≤ ptH left p q v ∧ 0 ≤ ptH left p q v := fun v hv => by
      unfold ptH; rw [if_pos hv]; split <;> omega
    have pq : ∀ c, ptH left p q (left + c) = q c := fun c => by
      unfold ptH; rw [if_neg (by omega), show left + c - left = c by omega]
    obtain ⟨c, hc⟩ : ∃ c, rtE es i = left + c := ⟨rtE es i - left, by omega⟩
    have e : ptH left p q (frE es i) + ptH left p q (toE es i) = ptH left p q (lfE es i) + ptH left p q (rtE es i) := by
      unfold lfE rtE
      rcases Nat.le_total (frE es i) (toE es i) with h | h
      · rw [Nat.min_eq_left h, Nat.max_eq_right h]
      · rw [Nat.min_eq_right h, Nat.max_eq_left h]; omega
    rw [e, hc, pq]
    have hq := (G.q0 c (by omega)).1
    have hp := po _ a1
    by_cases h0 : 0 < (es i).k
    · obtain ⟨b1, b2⟩ := B.le i _ c hi a1 (by omega) rfl hc h0
      have f := G.fe _ a1 c (by omega) (.inl (by omega))
      unfold wt wgE at f
      rw [if_pos (by omega), if_pos b1] at f
      omega
    · omega
  · rw [mlH_sum G hN (Nat.le_refl _), sumN_split]
    have e1 : sumN left (ptH left p q) = sumN left (fun u => p u + q (wd + u)) := sumN_congr fun u hu => by
      unfold ptH
      rw [if_pos hu]
      exact G.own hu (by omega)
    have e2 : (sumN wd fun i => ptH left p q (left + i)) = sumN wd q := sumN_congr fun c _ => by
      unfold ptH; rw [if_neg (by omega), show left + c - left = c by omega]
    have s := G.sum
    rw [hN, sumN_split, sumN_split] at s
    have e3 : (sumN left fun i => if 0 ≤ row (wd + i) then wt wd (wgE es bs) (row (wd + i)).toNat (wd + i) else 0) = 0 := sumN_zero fun i _ => by
      unfold wt; rw [if_neg (show ¬ wd + i < wd by omega)]; simp
    rw [e1, e2, sumN_add]
    omega
  · have := mlH_len (bs := bs) (row := row) (j := wd)
    omega
end

end Go.Proofs.Ytdblngaacnpgmaa

namespace Go.Proofs.Ytdblngaacnpgmaa
open Go
set_option linter.unusedVariables false
set_option linter.unusedSimpArgs false

/-- The table in the heap. -/
structure Tb (own : Own) (h : H) (bt left wd m : Nat) (es : Nat → Ed) (bs : Nat → Nat → Nat) : Prop where
  q : ∃ (vb vc : Value) (vals : Nat → Value), B1 own h 1 bt [.int .i64 left, .int .i64 ((left + wd : Nat) : Int), vb, vc] ∧ S1 own h 2 vb (va left vals) ∧ S1 own h 3 vc (ints m (ckE es)) ∧
    ∀ v, v < left → S1 own h (40 + v) (vals v) (ints wd fun c => (bs v c : Nat))
theorem B1.rI {own : Own} {h : H} {i b j : Nat} {vs : List Value} {x : Int} {K : Int → Prop} (B : B1 own h i b vs) (hi : vs[j]? = some (.int .i64 x)) (k : K x) : ldI h ((bk b).add j) .i64 K := ⟨x, B.ld hi, k⟩
theorem B1.rV {own : Own} {h : H} {i b j : Nat} {vs : List Value} {x : Value} {K : Value → Prop} (B : B1 own h i b vs) (hi : vs[j]? = some x) (k : K x) : ldV h ((bk b).add j) K := ⟨x, B.ld hi, k⟩
section
variable {own own' : Own} {h h' : H} {bt br left wd m N v c : Nat} {es : Nat → Ed} {bs : Nat → Nat → Nat} {p q row : Nat → Int} {M : List Nat}
theorem Tb.fm (Tt : Tb own h bt left wd m es bs) (Fr : Fm M own h own' h') (hM : ∀ j, j ∈ M → 3 < j ∧ j < 40) : Tb own' h' bt left wd m es bs := by
  obtain ⟨vb, vc, vals, k1, k2, k3, kv⟩ := Tt.q
  exact ⟨vb, vc, vals, k1.fm Fr (fun h => by have := hM _ h; omega), k2.fm Fr (fun h => by have := hM _ h; omega), k3.fm Fr (fun h => by have := hM _ h; omega), fun v hv => (kv v hv).fm Fr (fun h => by have := hM _ h; omega)⟩
theorem Tb.nw {b j : Nat} (Tt : Tb own h bt left wd m es bs) (x : Ext h h') (hb : h b = none) : Tb (own1 own b j) h' bt left wd m es bs := Tt.fm (M := []) (Fm.new x hb) (by simp)
theorem weight_T (Tt : Tb own h bt left wd m es bs) (B : BsP left wd m es bs) (hv : v < left) (hc : c < wd) (hl : left + wd ≤ 1024) (hm : m ≤ 4096) {w : Int} (hw : w = (left : Int) + c) :
    T Try.prog F.assign_table_weight [.pointer (some (bk bt)), .int .i64 v, .int .i64 w] h fun r h' => r = .ret (.int .i64 (wgE es bs v c)) ∧ h = h' := by
  obtain ⟨vb, vc, vals, k1, k2, k3, kv⟩ := Tt.q
  subst hw
  have bm := B.bm v c hv hc
  refine E_assign_table_weight ?_
  unfold B_assign_table_weight
  refine ptrP_mk (ptrP_mk (k1.rV rfl (k2.rdV hv (k1.rI rfl ?_))))
  have e1 : IntKind.i64.wrap ((left : Int) + c - left) = c := by rw [show (left : Int) + c - left = c by omega]; exact w64_in (by omega) (by omega)
  rw [e1]
  refine (kv v hv).rdI hc (ifP_of (fun h1 => ?_) (fun h1 => ?_))
  · have h1 : 0 < bs v c := by have := of_decide_eq_true h1; omega
    have e2 : IntKind.i64.wrap ((bs v c : Int) - 1) = ((bs v c - 1 : Nat) : Int) := by rw [show ((bs v c : Int) - 1) = ((bs v c - 1 : Nat) : Int) by omega]; exact w64_in (by omega) (by omega)
    refine ptrP_mk (k1.rV rfl ?_)
    rw [e2]
    refine k3.rdI (by omega) ⟨?_, rfl⟩
    unfold wgE; rw [if_pos h1]
  · have h1 : ¬ 0 < bs v c := by have := of_decide_eq_false h1; omega
    refine ⟨?_, rfl⟩
    unfold wgE; rw [if_neg h1]
/-- What takes in rows, in the heap. -/
structure Rw (own : Own) (h : H) (br bt left wd N : Nat) (vp vq vr : Value) (p q row : Nat → Int) : Prop where
  k4 : B1 own h 4 br [.pointer (some (bk bt)), vp, vq, vr, .int .i64 wd]
  k5 : S1 own h 5 vp (ints left p)
  k6 : S1 own h 6 vq (ints N q)
  k7 : S1 own h 7 vr (ints N row)
theorem gap_T {vp vq vr : Value} {u : Nat} (Tt : Tb own h bt left wd m es bs) (B : BsP left wd m es bs) (k4 : B1 own h 4 br [.pointer (some (bk bt)), vp, vq, vr, .int .i64 wd]) (k5 : S1 own h 5 vp (ints left p)) (k6 : S1 own h 6 vq (ints N q))
    (hu : u < left) (hc : c < N) (hN : N = wd + left) (hl : left + wd ≤ 1024) (hm : m ≤ 4096)
    (hp : -1099511627776 ≤ p u ∧ p u ≤ 1099511627776) (hq : 0 ≤ q c ∧ q c ≤ 1099511627776) (hk : ∀ v c, 0 ≤ wgE es bs v c ∧ wgE es bs v c ≤ 1048576) :
    T Try.prog F.assign_rows_gap [.pointer (some (bk br)), .int .i64 u, .int .i64 c] h fun r h' => r = .ret (.int .i64 (if al wd u c then gp wd (wgE es bs) p q u c else -1)) ∧ h = h' := by
  refine E_assign_rows_gap ?_
  unfold B_assign_rows_gap
  have e0 : IntKind.i64.wrap (p u + q c) = p u + q c := w64_in (by omega) (by omega)
  refine ptrP_mk (k4.rI rfl (ifP_of (fun h1 => ?_) (fun h1 => ?_)))
  · have h1 : c < wd := by have := of_decide_eq_true h1; omega
    have hw := hk u c
    obtain ⟨vb, vc, vals, k1, _⟩ := Tt.q
    refine ptrP_mk (ptrP_mk (ptrP_mk (ptrP_mk (k4.rV rfl (k5.at (ints_get hu) fun a8 e8 => ⟨_, e8, k4.rV rfl (k6.at (ints_get hc) fun a11 e11 => ⟨_, e11, k4.rV rfl (k4.rV rfl (ptrP_mk (k1.rI rfl ?_)))⟩)⟩)))))
    have e1 : IntKind.i64.wrap ((c : Int) + left) = (left : Int) + c := by rw [Int.add_comm]; exact w64_in (by omega) (by omega)
    refine (weight_T Tt B hu h1 hl hm e1).mono ?_
    rintro _ _ ⟨rfl, rfl⟩
    have e2 : IntKind.i64.wrap (p u + q c - wgE es bs u c) = p u + q c - wgE es bs u c := w64_in (by omega) (by omega)
    refine rt_ret ⟨_, rfl, fun _ _ => rfl, fun _ _ => rfl, fun _ _ => rfl, fun _ _ => rfl, ?_, rfl⟩
    rw [e0, e2, if_pos (.inl h1), gp_eq]
    unfold wt; rw [if_pos h1]
  · have h1 : ¬ c < wd := by have := of_decide_eq_false h1; omega
    have e1 : IntKind.i64.wrap ((wd : Int) + u) = ((wd + u : Nat) : Int) := w64_in (by omega) (by omega)
    refine ptrP_mk (k4.rI rfl ?_)
    rw [e1]
    refine ifP_of (fun h2 => ?_) (fun h2 => ?_)
    · have h2 : c = wd + u := by have := of_decide_eq_true h2; omega
      refine ptrP_mk (ptrP_mk (k4.rV rfl (k5.rdI hu (k4.rV rfl (k6.rdI hc ⟨?_, rfl⟩)))))
      rw [e0, if_pos (.inr h2), gp_eq]
      unfold wt; rw [if_neg h1, Int.sub_zero]
    · have h2 : ¬ c = wd + u := by have := of_decide_eq_false h2; omega
      refine ⟨?_, rfl⟩
      rw [if_neg (by rintro (h | h) <;> omega)]
end

end Go.Proofs.Ytdblngaacnpgmaa

namespace Go.Proofs.Ytdblngaacnpgmaa
open Go
set_option linter.unusedVariables false
set_option linter.unusedSimpArgs false
set_option maxHeartbeats 1000000

theorem S1.cg {own : Own} {h : H} {i n : Nat} {v : Value} {f g : Nat → Int} (s : S1 own h i v (ints n f)) (e : ∀ j, j < n → f j = g j) : S1 own h i v (ints n g) := by rw [← ints_ext e]; exact s
theorem upd_to {f g : Nat → Int} {j : Nat} {x : Int} (hx : x = g j) (c : Nat) : upd (fun c => if c < j then g c else f c) j x c = if c < j + 1 then g c else f c := by
  by_cases e : c = j
  · subst e; rw [upd_at, if_pos (by omega), hx]
  · rw [upd_ne e]
    show (if c < j then g c else f c) = _
    by_cases h : c < j
    · rw [if_pos h, if_pos (by omega)]
    · rw [if_neg h, if_neg (by omega)]
section
variable {N wd v a j : Nat} {W : Nat → Nat → Int} {row p q least frm : Nat → Int} {done : Nat → Bool} {inn : Int}
theorem sc_no (h : ¬ (done j = false ∧ al wd a j ∧ gp wd W p q a j < least j)) (c : Nat) : scL N wd W p q least done a (j + 1) c = scL N wd W p q least done a j c ∧ scF N wd W p q least frm done a inn (j + 1) c = scF N wd W p q least frm done a inn j c := by
  unfold scL scF
  by_cases e : c = j
  · subst e
    exact ⟨(if_neg fun k => h k.2).trans (if_neg fun k => h k.2).symm, (if_neg fun k => h k.2).trans (if_neg fun k => h k.2).symm⟩
  · by_cases k : c < j ∧ done c = false ∧ al wd a c ∧ gp wd W p q a c < least c
    · exact ⟨(if_pos ⟨by omega, k.2⟩).trans (if_pos k).symm, (if_pos ⟨by omega, k.2⟩).trans (if_pos k).symm⟩
    · exact ⟨(if_neg fun k2 => k ⟨by omega, k2.2⟩).trans (if_neg k).symm, (if_neg fun k2 => k ⟨by omega, k2.2⟩).trans (if_neg k).symm⟩
theorem sc_yes (h : done j = false ∧ al wd a j ∧ gp wd W p q a j < least j) (c : Nat) : scL N wd W p q least done a (j + 1) c = upd (scL N wd W p q least done a j) j (gp wd W p q a j) c ∧ scF N wd W p q least frm done a inn (j + 1) c = upd (scF N wd W p q least frm done a inn j) j inn c := by
  by_cases e : c = j
  · subst e
    rw [upd_at, upd_at]
    unfold scL scF
    exact ⟨if_pos ⟨by omega, h⟩, if_pos ⟨by omega, h⟩⟩
  · rw [upd_ne e, upd_ne e]
    unfold scL scF
    by_cases k : c < j ∧ done c = false ∧ al wd a c ∧ gp wd W p q a c < least c
    · exact ⟨(if_pos ⟨by omega, k.2⟩).trans (if_pos k).symm, (if_pos ⟨by omega, k.2⟩).trans (if_pos k).symm⟩
    · exact ⟨(if_neg fun k2 => k ⟨by omega, k2.2⟩).trans (if_neg k).symm, (if_neg fun k2 => k ⟨by omega, k2.2⟩).trans (if_neg k).symm⟩
theorem scL_self : scL N wd W p q least done a j j = least j := by unfold scL; rw [if_neg (by omega)]
theorem upP_take {R : List Nat} (nd : R.Nodup) {less : Int} (hj : j < R.length) (u : Nat) : upP p (R.take (j + 1)) less u = upd (upP p (R.take j) less) R[j] (upP p (R.take j) less R[j] - less) u ∧ upP p (R.take j) less R[j] = p R[j] := by
  have nm : R[j] ∉ R.take j := fun h => by
    obtain ⟨i, hi, e⟩ := List.mem_iff_getElem.1 h
    rw [List.getElem_take] at e
    have hi2 : i < j := by rw [List.length_take] at hi; omega
    have := (List.getElem_inj (h₀ := by omega) (h₁ := hj) nd).1 e
    omega
  have e0 : upP p (R.take j) less R[j] = p R[j] := if_neg nm
  refine ⟨?_, e0⟩
  rw [e0]
  have tk : R.take (j + 1) = R.take j ++ [R[j]] := by rw [List.take_succ_eq_append_getElem hj]
  unfold upd
  by_cases e : u = R[j]
  · rw [if_pos e, e]
    unfold upP
    rw [if_pos (by rw [tk]; exact List.mem_append.2 (.inr (List.mem_singleton.2 rfl)))]
  · rw [if_neg e]
    unfold upP
    by_cases k : u ∈ R.take j
    · rw [if_pos k, if_pos (by rw [tk]; exact List.mem_append.2 (.inl k))]
    · rw [if_neg k, if_neg (by rw [tk, List.mem_append, List.mem_singleton]; rintro (h | h); exact k h; exact e h)]
end

section
variable {own : Own} {h : H} {bt br left wd m N v : Nat} {es : Nat → Ed} {bs : Nat → Nat → Nat} {p q row : Nat → Int} {vp vq vr : Value}
theorem take_T (Tt : Tb own h bt left wd m es bs) (B : BsP left wd m es bs) (R : Rw own h br bt left wd N vp vq vr p q row) (G : HgP N wd v (wgE es bs) p q row)
    (hv : v < left) (hN : N = wd + left) (hl : left + wd ≤ 1024) (hm : m ≤ 4096) (hk : ∀ v c, 0 ≤ wgE es bs v c ∧ wgE es bs v c ≤ 1048576) :
    T Try.prog F.assign_rows_take [.pointer (some (bk br)), .int .i64 v] h fun r h' => r = .ret (.tuple ⟨[]⟩) ∧ ∃ own' p' q' row', Fm [5, 6, 7, 8, 9, 10, 11] own h own' h' ∧ Rw own' h' br bt left wd N vp vq vr p' q' row' ∧
      HgP N wd (v + 1) (wgE es bs) p' q' row' := by
  obtain ⟨k4, k5, k6, k7⟩ := R
  have hwt : ∀ u c, 0 ≤ wt wd (wgE es bs) u c := fun u c => by unfold wt; split; exact (hk u c).1; exact Int.le_refl _
  refine E_assign_rows_take ?_
  unfold B_assign_rows_take
  refine ptrP_mk ⟨_, k4.ld rfl, k7.len (ints_length _ _) fun _ _ => ?_⟩
  refine mk_ints 8 (by omega) (by omega) ?_
  intro b6 h7 hb6 x6 k8
  have Ft : Fm [5, 6, 7, 8, 9, 10, 11] own h (own1 own b6 8) h7 := Fm.new x6 hb6
  have Tt := Tt.nw (j := 8) x6 hb6
  have k4 := k4.nw (j := 8) x6 hb6
  have k5 := k5.nw (j := 8) x6 hb6
  have k6 := k6.nw (j := 8) x6 hb6
  have k7 := k7.nw (j := 8) x6 hb6
  have k8 := k8 own
  generalize own1 own b6 8 = ow at *
  refine mk_ints 9 (by omega) (by omega) ?_
  intro b8 h9 hb8 x8 k9
  have Ft := Ft.trans (Fm.new (i := 9) x8 hb8)
  have Tt := Tt.nw (j := 9) x8 hb8
  have k4 := k4.nw (j := 9) x8 hb8
  have k5 := k5.nw (j := 9) x8 hb8
  have k6 := k6.nw (j := 9) x8 hb8
  have k7 := k7.nw (j := 9) x8 hb8
  have k8 := k8.nw (j := 9) x8 hb8
  have k9 := k9 ow
  generalize own1 ow b8 9 = ow at *
  refine mk_bools 10 (by omega) (by omega) ?_
  intro b10 h11 hb10 x10 k10
  have Ft := Ft.trans (Fm.new (i := 10) x10 hb10)
  have Tt := Tt.nw (j := 10) x10 hb10
  have k4 := k4.nw (j := 10) x10 hb10
  have k5 := k5.nw (j := 10) x10 hb10
  have k6 := k6.nw (j := 10) x10 hb10
  have k7 := k7.nw (j := 10) x10 hb10
  have k8 := k8.nw (j := 10) x10 hb10
  have k9 := k9.nw (j := 10) x10 hb10
  have k10 := k10 ow
  generalize own1 ow b10 10 = ow at *
  clear x6 hb6 x8 hb8 x10 hb10
  simp only [Int.toNat_natCast]
  -- nothing is known of the columns yet
  let I0 : (Int × Unit) → H → Nat → Prop := fun p_ g z => ∃ j : Nat, p_.1 = j ∧ j ≤ N ∧ z = N - j ∧ Fm [8, 9] ow h11 ow g ∧ S1 ow g 8 (.slice (some (bk b6)) N N) (ints N fun c => if c < j then farI else 0) ∧ S1 ow g 9 (.slice (some (bk b8)) N N) (ints N fun c => if c < j then -1 else 0)
  refine ⟨fun p q => ∃ k, I0 p q k, rk I0, rk_wf I0, ⟨_, 0, rfl, by omega, rfl, Fm.refl, k8.cg fun c _ => (if_neg (by omega)).symm, k9.cg fun c _ => (if_neg (by omega)).symm⟩, ?_⟩
  clear k8 k9
  intro p_ g hI
  obtain ⟨j, e1, hj, hz, Fq, k8, k9⟩ := mu_spec hI
  generalize hkk : mu I0 ((p_, ()), g) = km at *
  change p_ = (j : Int) at e1
  subst e1
  have hlt : j < N → N - (j + 1) < mu I0 (((j : Int), ()), g) := fun h => by rw [hkk, hz]; exact sub_dec h
  clear hI
  refine ifP_of (fun h1 => ?_) (fun h1 => ?_)
  · have hjN : j < N := by have := of_decide_eq_true h1; omega
    refine k8.setI hjN fun g1 F1 k8 => ?_
    have k9 := k9.fm F1 (by simp <;> omega)
    refine k9.setI hjN fun g2 F2 k9 => ?_
    have k8 := k8.fm F2 (by simp <;> omega)
    rw [i64_inc (by omega)]
    refine mu_next (I := I0) (k := N - (j + 1)) ⟨j + 1, rfl, hjN, rfl, (Fq.trans (F1.mono (by simp))).trans (F2.mono (by simp)), k8.cg fun c _ => upd_to (g := fun _ => farI) (f := fun _ => 0) rfl c, k9.cg fun c _ => upd_to (g := fun _ => -1) (f := fun _ => 0) rfl c⟩ (hlt hjN)
  have hjN : j = N := by have := of_decide_eq_false h1; omega
  have k8 : S1 ow g 8 (.slice (some (bk b6)) N N) (ints N fun _ => farI) := k8.cg fun c hc => if_pos (by omega)
  have k9 : S1 ow g 9 (.slice (some (bk b8)) N N) (ints N fun _ => -1) := k9.cg fun c hc => if_pos (by omega)
  have Ft := Ft.trans (Fq.mono (by simp))
  have Tt := Tt.fm Fq (by simp <;> omega)
  have k4 := k4.fm Fq (by simp <;> omega)
  have k5 := k5.fm Fq (by simp <;> omega)
  have k6 := k6.fm Fq (by simp <;> omega)
  have k7 := k7.fm Fq (by simp <;> omega)
  have k10 := k10.fm Fq (by simp <;> omega)
  clear hlt hkk hz h1 hj Fq
  -- its potential is as much as is needed
  refine ptrP_mk (k4.rI rfl ?_)
  have pv0 := G.p0 v (Nat.le_refl _)
  let I1 : (Int × Unit) → H → Nat → Prop := fun p_ g2 z => ∃ (c : Nat) (P : Int), p_.1 = c ∧ c ≤ wd ∧ z = wd - c ∧ Fm [5] ow g ow g2 ∧ S1 ow g2 5 vp (ints left (upd p v P)) ∧ (0 ≤ P ∧ P ≤ 1048576) ∧ ∀ c', c' < c → wgE es bs v c' ≤ P + q c'
  refine ⟨fun p q => ∃ k, I1 p q k, rk I1, rk_wf I1, ⟨_, 0, 0, rfl, by omega, rfl, Fm.refl, by rw [← pv0, upd_self]; exact k5, by omega, fun c' hc => by omega⟩, ?_⟩
  clear k5
  intro p_ g2 hI
  obtain ⟨c, P, e1, hc, hz, Fq, k5, hP, hPc⟩ := mu_spec hI
  generalize hkk : mu I1 ((p_, ()), g2) = km at *
  change p_ = (c : Int) at e1
  subst e1
  have hlt : c < wd → wd - (c + 1) < mu I1 (((c : Int), ()), g2) := fun h => by rw [hkk, hz]; exact sub_dec h
  clear hI
  refine ifP_of (fun h1 => ?_) (fun h1 => ?_)
  · have hcw : c < wd := by have := of_decide_eq_true h1; omega
    have Tq := Tt.fm Fq (by simp)
    have k4q := k4.fm Fq (by simp <;> omega)
    have k6q := k6.fm Fq (by simp <;> omega)
    obtain ⟨vb, vc, vals, k1, _⟩ := Tq.q
    have hw := hk v c
    have hq := G.q0 c (by omega)
    refine ptrP_mk (ptrP_mk (ptrP_mk (ptrP_mk (ptrP_mk (k4q.rV rfl (k4q.rV rfl (k5.at (ints_get hv) fun a33 e33 => ⟨_, e33, k4q.rV rfl (k4q.rV rfl (ptrP_mk (k1.rI rfl (k4q.rV rfl (k6q.at (ints_get (show c < N by omega)) fun a40 e40 => ⟨_, e40, ?_⟩)))))⟩)))))))
    have e1 : IntKind.i64.wrap ((c : Int) + left) = (left : Int) + c := by rw [Int.add_comm]; exact w64_in (by omega) (by omega)
    refine (weight_T Tq B hv hcw hl hm e1).mono ?_
    rintro _ _ ⟨rfl, rfl⟩
    refine rt_ret ⟨_, rfl, fun _ _ => rfl, fun _ _ => rfl, fun _ _ => rfl, fun _ _ => rfl, fun _ _ => rfl, ?_⟩
    have e2 : IntKind.i64.wrap (wgE es bs v c - q c) = wgE es bs v c - q c := w64_in (by omega) (by omega)
    rw [upd_at, e2]
    refine k5.setI hv fun g3 F3 k5 => ?_
    rw [i64_inc (by omega)]
    refine mu_next (I := I1) (k := wd - (c + 1)) ⟨c + 1, if P < wgE es bs v c - q c then wgE es bs v c - q c else P, rfl, hcw, rfl, Fq.trans F3, k5.cg fun u _ => ?_, ?_, fun c' hc' => ?_⟩ (hlt hcw)
    · unfold upd; split <;> rfl
    · split <;> omega
    · by_cases e : c' = c
      · subst e; split <;> omega
      · have := hPc c' (by omega)
        split <;> omega
  have hcw : c = wd := by have := of_decide_eq_false h1; omega
  have Ft := Ft.trans (Fq.mono (by simp))
  have Tt := Tt.fm Fq (by simp <;> omega)
  have k4 := k4.fm Fq (by simp <;> omega)
  have k6 := k6.fm Fq (by simp <;> omega)
  have k7 := k7.fm Fq (by simp <;> omega)
  have k8 := k8.fm Fq (by simp <;> omega)
  have k9 := k9.fm Fq (by simp <;> omega)
  have k10 := k10.fm Fq (by simp <;> omega)
  clear hlt hkk hz h1 hc Fq
  have q00 : q (wd + v) = 0 := by
    rcases G.ma (wd + v) (by omega) with ⟨_, h⟩ | ⟨u, h1, h2, h3, _⟩
    · exact h
    · rcases h3 with h3 | h3 <;> omega
  refine ptrP_mk (ptrP_mk (ptrP_mk (ptrP_mk (k4.rV rfl (k4.rV rfl (k5.rdI hv (k4.rV rfl (k4.rI rfl ?_))))))))
  have e1 : IntKind.i64.wrap ((wd : Int) + v) = ((wd + v : Nat) : Int) := w64_in (by omega) (by omega)
  rw [e1]
  refine k6.rdI (by omega) ?_
  have e2 : IntKind.i64.wrap (0 - q (wd + v)) = 0 := by rw [q00]; rfl
  rw [e2, upd_at, if_neg (by omega)]
  refine k5.setI hv fun g3 F3 k5 => ?_
  have Ft := Ft.trans (F3.mono (by simp))
  have Tt := Tt.fm F3 (by simp <;> omega)
  have k4 := k4.fm F3 (by simp <;> omega)
  have k6 := k6.fm F3 (by simp <;> omega)
  have k7 := k7.fm F3 (by simp <;> omega)
  have k8 := k8.fm F3 (by simp <;> omega)
  have k9 := k9.fm F3 (by simp <;> omega)
  have k10 := k10.fm F3 (by simp <;> omega)
  have k5 : S1 ow g3 5 vp (ints left (upd p v P)) := k5.cg fun u _ => by unfold upd; split <;> rfl
  refine new_bl ?_
  intro b63 g4 hb63 x63 B63
  have k11 : S1 (own1 ow b63 11) g4 11 (.slice (some (bk b63)) 1 1) (natV [v]) := .inr ⟨b63, own1_at, 1, B63.choose, [], rfl, B63.choose_spec, rfl⟩
  have Ft := Ft.trans (Fm.new (i := 11) x63 hb63)
  have Tt := Tt.nw (j := 11) x63 hb63
  have k4 := k4.nw (j := 11) x63 hb63
  have k5 := k5.nw (j := 11) x63 hb63
  have k6 := k6.nw (j := 11) x63 hb63
  have k7 := k7.nw (j := 11) x63 hb63
  have k8 := k8.nw (j := 11) x63 hb63
  have k9 := k9.nw (j := 11) x63 hb63
  have k10 := k10.nw (j := 11) x63 hb63
  generalize own1 ow b63 11 = ow at *
  have Tk0 := G.take pv0 hP (fun c hc ha => by
    have hq := (G.q0 c hc).1
    rcases ha with ha | ha
    · have := hPc c (by omega)
      unfold wt; rw [if_pos ha]; exact this
    · subst ha
      unfold wt; rw [if_neg (by omega)]; omega) (fun _ => 0)
  clear x63 hb63 B63 F3
  let I : (Value × Int × Int × Unit) → H → Nat → Prop := fun s g z => ∃ (t a : Nat) (ow : Own) (p q least frm : Nat → Int) (done : Nat → Bool) (rk_ : Nat → Nat) (Rl : List Nat), s.2.1 = a ∧ z = v + 1 - Rl.length ∧ Fm [5, 6, 7, 8, 9, 10, 11] own h ow g ∧
    Tb ow g bt left wd m es bs ∧ B1 ow g 4 br [.pointer (some (bk bt)), vp, vq, vr, .int .i64 wd] ∧ S1 ow g 5 vp (ints left p) ∧ S1 ow g 6 vq (ints N q) ∧ S1 ow g 7 vr (ints N row) ∧
    S1 ow g 8 (.slice (some (bk b6)) N N) (ints N least) ∧ S1 ow g 9 (.slice (some (bk b8)) N N) (ints N frm) ∧ S1 ow g 10 (.slice (some (bk b10)) N N) (bools N done) ∧ S1 ow g 11 s.1 (natV Rl) ∧
    TkP N wd v (wgE es bs) row P p q least frm done rk_ t Rl (fun u => u ∈ Rl ∧ u ≠ a) ∧ a ∈ Rl ∧ ((s.2.2.1 = -1 ∧ a = v) ∨ ∃ b : Nat, b < N ∧ s.2.2.1 = b ∧ done b = true ∧ row b = a)
  refine ⟨fun p q => ∃ k, I p q k, rk I, rk_wf I, ⟨_, 0, v, ow, _, _, _, _, _, _, [v], rfl, rfl, Ft, Tt, k4, k5, k6, k7, k8, k9, k10, k11, Tk0.wk (fun u h => h.2 (by simpa using h.1)), by simp, .inl ⟨rfl, rfl⟩⟩, ?_⟩
  clear Tk0 Ft Tt k4 k5 k6 k7 k8 k9 k10 k11 hPc q00 pv0 G
  intro reached at_ in_ g hI
  obtain ⟨t, a, ow, p, q, least, frm, done, rk_, Rl, e1, hz, Ft, Tt, k4, k5, k6, k7, k8, k9, k10, k11, Tk, ha, hin⟩ := mu_spec hI
  generalize hkk : mu I ((reached, at_, in_, ()), g) = km at *
  change at_ = (a : Int) at e1
  change S1 ow g 11 reached (natV Rl) at k11
  change (in_ = -1 ∧ a = v) ∨ ∃ b : Nat, b < N ∧ in_ = b ∧ done b = true ∧ row b = a at hin
  subst e1
  have hltO : ∀ R' : List Nat, R'.length = Rl.length + 1 → R'.length ≤ v + 1 → v + 1 - R'.length < mu I ((reached, (a : Int), in_, ()), g) := fun R' h1 h2 => by rw [hkk, hz, h1]; rw [h1] at h2; exact sub_dec h2
  clear hI
  have av := Tk.rlt ha
  have hNv : ∀ u, u < v + 1 → wd + u < N := fun u hu => by omega
  -- a look from a row
  let I1 : (Int × Unit) → H → Nat → Prop := fun s g2 z => ∃ j : Nat, s.1 = j ∧ j ≤ N ∧ z = N - j ∧ Fm [8, 9] ow g ow g2 ∧ S1 ow g2 8 (.slice (some (bk b6)) N N) (ints N (scL N wd (wgE es bs) p q least done a j)) ∧
    S1 ow g2 9 (.slice (some (bk b8)) N N) (ints N (scF N wd (wgE es bs) p q least frm done a in_ j))
  refine ⟨fun p q => ∃ k, I1 p q k, rk I1, rk_wf I1, ⟨_, 0, rfl, by omega, rfl, Fm.refl, k8.cg fun c _ => (if_neg (by omega)).symm, k9.cg fun c _ => (if_neg (by omega)).symm⟩, ?_⟩
  clear k8 k9
  intro p_ g2 hI
  obtain ⟨j, e1, hj, hz1, Fq, k8, k9⟩ := mu_spec hI
  generalize hkk1 : mu I1 ((p_, ()), g2) = km1 at *
  change p_ = (j : Int) at e1
  subst e1
  have hlt : j < N → N - (j + 1) < mu I1 (((j : Int), ()), g2) := fun h => by rw [hkk1, hz1]; exact sub_dec h
  clear hI
  refine ifP_of (fun h1 => ?_) (fun h1 => ?_)
  · have hjN : j < N := by have := of_decide_eq_true h1; omega
    have hpb := Tk.pb hNv av
    have hqb := Tk.q0 j hjN
    have hpv := Tk.pv
    refine (gap_T (Tt.fm Fq (by simp)) B (k4.fm Fq (by simp <;> omega)) (k5.fm Fq (by simp <;> omega)) (k6.fm Fq (by simp <;> omega)) (by omega) hjN hN hl hm (by omega) (by omega) hk).mono ?_
    rintro _ _ ⟨rfl, rfl⟩
    refine rt_ret ⟨_, rfl, (k10.fm Fq (by simp <;> omega)).rdB hjN ?_⟩
    have skip : ¬ (done j = false ∧ al wd a j ∧ gp wd (wgE es bs) p q a j < least j) → (∃ k, I1 ((IntKind.i64.wrap ((j : Int) + 1)), ()) g2 k) ∧ rk I1 (((IntKind.i64.wrap ((j : Int) + 1)), ()), g2) (((j : Int), ()), g2) := fun hno => by
      rw [i64_inc (by omega)]
      exact mu_next (I := I1) (k := N - (j + 1)) ⟨j + 1, rfl, hjN, rfl, Fq, k8.cg fun c _ => (sc_no (frm := frm) (inn := in_) hno c).1.symm, k9.cg fun c _ => (sc_no hno c).2.symm⟩ (hlt hjN)
    refine ifP_of (fun h2 => ?_) (fun h2 => skip fun k => by rw [k.1] at h2; cases h2)
    have hd : done j = false := by simpa using h2
    refine ifP_of (fun h3 => ?_) (fun h3 => skip fun k => by
      have h3 := of_decide_eq_false h3
      rw [if_pos k.2.1] at h3
      exact h3 (Tk.gp0 av hjN k.2.1))
    have h3 := of_decide_eq_true h3
    have hal : al wd a j := by
      by_cases e : al wd a j
      · exact e
      · rw [if_neg e] at h3; omega
    rw [if_pos hal]
    refine k8.rdI hjN ?_
    rw [scL_self]
    refine ifP_of (fun h4 => ?_) (fun h4 => skip fun k => by have := of_decide_eq_false h4; omega)
    have h4 := of_decide_eq_true h4
    refine k8.setI hjN fun g3 F1 k8 => ?_
    have k9 := k9.fm F1 (by simp <;> omega)
    refine k9.setI hjN fun g4 F2 k9 => ?_
    have k8 := k8.fm F2 (by simp <;> omega)
    rw [i64_inc (by omega)]
    exact mu_next (I := I1) (k := N - (j + 1)) ⟨j + 1, rfl, hjN, rfl, (Fq.trans (F1.mono (by simp))).trans (F2.mono (by simp)), k8.cg fun c _ => (sc_yes (frm := frm) (inn := in_) ⟨hd, hal, h4⟩ c).1.symm, k9.cg fun c _ => (sc_yes ⟨hd, hal, h4⟩ c).2.symm⟩ (hlt hjN)
  have hjN : j = N := by have := of_decide_eq_false h1; omega
  rw [hjN] at k8 k9
  have Tk1 := Tk.scan hin
  have Ft := Ft.trans (Fq.mono (by simp))
  have Tt := Tt.fm Fq (by simp <;> omega)
  have k4 := k4.fm Fq (by simp <;> omega)
  have k5 := k5.fm Fq (by simp <;> omega)
  have k6 := k6.fm Fq (by simp <;> omega)
  have k7 := k7.fm Fq (by simp <;> omega)
  have k10 := k10.fm Fq (by simp <;> omega)
  have k11 := k11.fm Fq (by simp <;> omega)
  clear hlt hkk1 hz1 h1 hj Fq hin hkk hz Tk
  generalize scL N wd (wgE es bs) p q least done a N = least1 at *
  generalize scF N wd (wgE es bs) p q least frm done a in_ N = frm1 at *
  have ow0 := Tk1.own (hNv v (by omega))
  -- the nearest column
  let I2 : (Int × Int × Unit) → H → Nat → Prop := fun s g3 z => ∃ j : Nat, s.2.1 = j ∧ j ≤ N ∧ z = N - j ∧ g3 = g2 ∧ ((s.1 = -1 ∧ ∀ c, c < j → done c = true) ∨ ∃ nx : Nat, s.1 = nx ∧ nx < j ∧ done nx = false ∧ ∀ c, c < j → done c = false → least1 nx ≤ least1 c)
  refine ⟨fun p q => ∃ k, I2 p q k, rk I2, rk_wf I2, ⟨_, 0, rfl, by omega, rfl, rfl, .inl ⟨rfl, fun c hc => by omega⟩⟩, ?_⟩
  intro nxt p_ g3 hI
  obtain ⟨j, e1, hj, hz1, e2, hn⟩ := mu_spec hI
  generalize hkk1 : mu I2 ((nxt, p_, ()), g3) = km1 at *
  change p_ = (j : Int) at e1
  change (nxt = -1 ∧ ∀ c, c < j → done c = true) ∨ ∃ nx : Nat, nxt = nx ∧ nx < j ∧ done nx = false ∧ ∀ c, c < j → done c = false → least1 nx ≤ least1 c at hn
  subst e1 e2
  have hlt : j < N → N - (j + 1) < mu I2 ((nxt, (j : Int), ()), g3) := fun h => by rw [hkk1, hz1]; exact sub_dec h
  clear hI
  refine ifP_of (fun h1 => ?_) (fun h1 => ?_)
  · have hjN : j < N := by have := of_decide_eq_true h1; omega
    rw [i64_inc (by omega)]
    refine k10.rdB hjN (ifP_of (fun h2 => ?_) (fun h2 => ?_))
    · have hd : done j = false := by simpa using h2
      refine ifP_of (fun h3 => ?_) (fun h3 => ?_)
      · have h3 := of_decide_eq_true h3
        refine mu_next (I := I2) (k := N - (j + 1)) ⟨j + 1, rfl, hjN, rfl, rfl, .inr ⟨j, rfl, by omega, hd, fun c hc hc2 => ?_⟩⟩ (hlt hjN)
        rcases hn with ⟨_, h4⟩ | ⟨nx, h4, _⟩
        · by_cases e : c = j
          · subst e; exact Int.le_refl _
          · have := h4 c (by omega); rw [hc2] at this; cases this
        · omega
      · have h3 := of_decide_eq_false h3
        rcases hn with ⟨h4, _⟩ | ⟨nx, rfl, h5, h6, h7⟩
        · omega
        refine k8.at (ints_get hjN) fun a1 e1 => k8.at (ints_get (show nx < N by omega)) fun a2 e2 => ⟨_, e1, _, e2, ifP_of (fun h8 => ?_) (fun h8 => ?_)⟩
        · have h8 := of_decide_eq_true h8
          refine mu_next (I := I2) (k := N - (j + 1)) ⟨j + 1, rfl, hjN, rfl, rfl, .inr ⟨j, rfl, by omega, hd, fun c hc hc2 => ?_⟩⟩ (hlt hjN)
          by_cases e : c = j
          · subst e; exact Int.le_refl _
          · have := h7 c (by omega) hc2; omega
        · have h8 := of_decide_eq_false h8
          refine mu_next (I := I2) (k := N - (j + 1)) ⟨j + 1, rfl, hjN, rfl, rfl, .inr ⟨nx, rfl, by omega, h6, fun c hc hc2 => ?_⟩⟩ (hlt hjN)
          by_cases e : c = j
          · subst e; omega
          · exact h7 c (by omega) hc2
    · have hd : done j = true := by simpa using h2
      refine mu_next (I := I2) (k := N - (j + 1)) ⟨j + 1, rfl, hjN, rfl, rfl, ?_⟩ (hlt hjN)
      rcases hn with ⟨h4, h5⟩ | ⟨nx, h4, h5, h6, h7⟩
      · refine .inl ⟨h4, fun c hc => ?_⟩
        by_cases e : c = j
        · subst e; exact hd
        · exact h5 c (by omega)
      · refine .inr ⟨nx, h4, by omega, h6, fun c hc hc2 => ?_⟩
        by_cases e : c = j
        · subst e; rw [hd] at hc2; cases hc2
        · exact h7 c (by omega) hc2
  have hjN : j = N := by have := of_decide_eq_false h1; omega
  rw [hjN] at hn
  clear hlt hkk1 hz1 h1 hj
  rcases hn with ⟨_, h4⟩ | ⟨nx, rfl, hnx, hd, hmin⟩
  · have := h4 _ (hNv v (by omega)); rw [ow0.1] at this; cases this
  refine k8.rdI hnx ?_
  have hpv := Tk1.pv
  have hlf : least1 nx < farI := by
    have h1 := hmin _ (hNv v (by omega)) ow0.1
    have h2 := Tk1.sc v ((Tk1.rr v).2 (.inl rfl)) _ (hNv v (by omega)) ow0.1 (.inr rfl)
    have e : wt wd (wgE es bs) v (wd + v) = 0 := by unfold wt; rw [if_neg (by omega)]
    rw [gp_eq, e, ow0.2] at h2
    have := farI_eq
    omega
  obtain ⟨l0, Tk2, lz⟩ := Tk1.upd hnx hd hlf hmin (hNv v (by omega)) hwt (by omega)
  have lb := Tk1.lb hwt (by omega) hnx hd hlf
  -- the rows' potentials
  refine k11.len (natV_length _) fun _ _ => ?_
  have Rlt : ∀ i, (hi : i < Rl.length) → Rl[i] < v + 1 := fun i hi => Tk1.rlt (List.getElem_mem hi)
  have Rln : Rl.length ≤ v + 1 := short Tk1.nd fun x hx => Tk1.rlt hx
  let I3 : (Int × Unit) → H → Nat → Prop := fun s g4 z => ∃ j : Nat, s.1 = j ∧ j ≤ Rl.length ∧ z = Rl.length - j ∧ Fm [5] ow g3 ow g4 ∧ S1 ow g4 5 vp (ints left (upP p (Rl.take j) (least1 nx)))
  refine ⟨fun p q => ∃ k, I3 p q k, rk I3, rk_wf I3, ⟨_, 0, rfl, by omega, rfl, Fm.refl, k5.cg fun u _ => by unfold upP; simp⟩, ?_⟩
  clear k5
  intro p_ g4 hI
  obtain ⟨j, e1, hj, hz1, Fq, k5⟩ := mu_spec hI
  generalize hkk1 : mu I3 ((p_, ()), g4) = km1 at *
  change p_ = (j : Int) at e1
  subst e1
  have hlt : j < Rl.length → Rl.length - (j + 1) < mu I3 (((j : Int), ()), g4) := fun h => by rw [hkk1, hz1]; exact sub_dec h
  clear hI
  refine ifP_of (fun h1 => ?_) (fun h1 => ?_)
  · have hjR : j < Rl.length := by have := of_decide_eq_true h1; omega
    have hRj := Rlt j hjR
    refine (k11.fm Fq (by simp <;> omega)).rd (natV_get hjR) (ptrP_mk ⟨_, (k4.fm Fq (by simp <;> omega)).ld rfl, k5.rdI (by omega) (k5.setI (by omega) fun g5 F1 k5 => ?_)⟩)
    have ut := fun u => upP_take (p := p) Tk1.nd (less := least1 nx) hjR u
    have pb := Tk1.pb hNv hRj
    have ew : IntKind.i64.wrap (upP p (Rl.take j) (least1 nx) Rl[j] - least1 nx) = upP p (Rl.take j) (least1 nx) Rl[j] - least1 nx := by
      rw [(ut 0).2]; exact w64_in (by omega) (by omega)
    rw [ew] at k5
    rw [i64_inc (by omega)]
    exact mu_next (I := I3) (k := Rl.length - (j + 1)) ⟨j + 1, rfl, hjR, rfl, Fq.trans F1, k5.cg fun u _ => (ut u).1.symm⟩ (hlt hjR)
  have hjR : j = Rl.length := by have := of_decide_eq_false h1; omega
  rw [hjR, List.take_length] at k5
  have Ft := Ft.trans (Fq.mono (by simp))
  have Tt := Tt.fm Fq (by simp <;> omega)
  have k4 := k4.fm Fq (by simp <;> omega)
  have k6 := k6.fm Fq (by simp <;> omega)
  have k7 := k7.fm Fq (by simp <;> omega)
  have k8 := k8.fm Fq (by simp <;> omega)
  have k9 := k9.fm Fq (by simp <;> omega)
  have k10 := k10.fm Fq (by simp <;> omega)
  have k11 := k11.fm Fq (by simp <;> omega)
  clear hlt hkk1 hz1 h1 hj Fq
  -- the columns'
  let I4 : (Int × Unit) → H → Nat → Prop := fun s g5 z => ∃ j : Nat, s.1 = j ∧ j ≤ N ∧ z = N - j ∧ Fm [6, 8] ow g4 ow g5 ∧ S1 ow g5 6 vq (ints N (upQ q done (least1 nx) j)) ∧ S1 ow g5 8 (.slice (some (bk b6)) N N) (ints N (upL least1 done (least1 nx) j))
  refine ⟨fun p q => ∃ k, I4 p q k, rk I4, rk_wf I4, ⟨_, 0, rfl, by omega, rfl, Fm.refl, k6.cg fun c _ => (if_neg (by omega)).symm, k8.cg fun c _ => (if_neg (by omega)).symm⟩, ?_⟩
  clear k6 k8
  intro p_ g5 hI
  obtain ⟨j, e1, hj, hz1, Fq, k6, k8⟩ := mu_spec hI
  generalize hkk1 : mu I4 ((p_, ()), g5) = km1 at *
  change p_ = (j : Int) at e1
  subst e1
  have hlt : j < N → N - (j + 1) < mu I4 (((j : Int), ()), g5) := fun h => by rw [hkk1, hz1]; exact sub_dec h
  clear hI
  refine ifP_of (fun h1 => ?_) (fun h1 => ?_)
  · have hjN : j < N := by have := of_decide_eq_true h1; omega
    have uq0 : upQ q done (least1 nx) j j = q j := if_neg (by omega)
    have ul0 : upL least1 done (least1 nx) j j = least1 j := if_neg (by omega)
    rw [i64_inc (by omega)]
    refine (k10.fm Fq (by simp <;> omega)).rdB hjN (ifP_of (fun h2 => ?_) (fun h2 => ?_))
    · refine ptrP_mk ⟨_, (k4.fm Fq (by simp <;> omega)).ld rfl, k6.rdI hjN (k6.setI hjN fun g6 F1 k6 => ?_)⟩
      have k8 := k8.fm F1 (by simp <;> omega)
      have qb := Tk1.q0 j hjN
      have ew : IntKind.i64.wrap (upQ q done (least1 nx) j j + least1 nx) = q j + least1 nx := by rw [uq0]; exact w64_in (by omega) (by omega)
      rw [ew] at k6
      refine mu_next (I := I4) (k := N - (j + 1)) ⟨j + 1, rfl, hjN, rfl, Fq.trans (F1.mono (by simp)), k6.cg fun c _ => ?_, k8.cg fun c _ => ?_⟩ (hlt hjN)
      · unfold upd upQ
        by_cases e : c = j
        · subst e; rw [if_pos rfl, if_pos ⟨by omega, h2⟩]
        · rw [if_neg e]
          by_cases h3 : c < j ∧ done c = true
          · rw [if_pos h3, if_pos ⟨by omega, h3.2⟩]
          · rw [if_neg h3, if_neg (fun h4 => h3 ⟨by omega, h4.2⟩)]
      · unfold upL
        by_cases e : c = j
        · subst e; rw [if_neg (by omega), if_neg (fun h4 => by rw [h2] at h4; cases h4.2.1)]
        · by_cases h3 : c < j ∧ done c = false ∧ least1 c < farI
          · rw [if_pos h3, if_pos ⟨by omega, h3.2⟩]
          · rw [if_neg h3, if_neg (fun h4 => h3 ⟨by omega, h4.2⟩)]
    · have uqs : ∀ c, upQ q done (least1 nx) j c = upQ q done (least1 nx) (j + 1) c := fun c => by
        unfold upQ
        by_cases e : c = j
        · subst e; rw [if_neg (by omega), if_neg (fun h4 => by rw [h2] at h4; cases h4.2)]
        · by_cases h3 : c < j ∧ done c = true
          · rw [if_pos h3, if_pos ⟨by omega, h3.2⟩]
          · rw [if_neg h3, if_neg (fun h4 => h3 ⟨by omega, h4.2⟩)]
      refine k8.rdI hjN ?_
      rw [ul0]
      refine ifP_of (fun h3 => ?_) (fun h3 => ?_)
      · have h3 := of_decide_eq_true h3
        have lbj := Tk1.lb hwt (by omega) hjN h2 h3
        refine k8.rdI hjN (k8.setI hjN fun g6 F1 k8 => ?_)
        have k6 := k6.fm F1 (by simp <;> omega)
        have ew : IntKind.i64.wrap (upL least1 done (least1 nx) j j - least1 nx) = least1 j - least1 nx := by rw [ul0]; exact w64_in (by omega) (by omega)
        rw [ew] at k8
        refine mu_next (I := I4) (k := N - (j + 1)) ⟨j + 1, rfl, hjN, rfl, Fq.trans (F1.mono (by simp)), k6.cg fun c _ => uqs c, k8.cg fun c _ => ?_⟩ (hlt hjN)
        unfold upd upL
        by_cases e : c = j
        · subst e; rw [if_pos rfl, if_pos ⟨by omega, h2, h3⟩]
        · rw [if_neg e]
          by_cases h4 : c < j ∧ done c = false ∧ least1 c < farI
          · rw [if_pos h4, if_pos ⟨by omega, h4.2⟩]
          · rw [if_neg h4, if_neg (fun h5 => h4 ⟨by omega, h5.2⟩)]
      · have h3 := of_decide_eq_false h3
        refine mu_next (I := I4) (k := N - (j + 1)) ⟨j + 1, rfl, hjN, rfl, Fq, k6.cg fun c _ => uqs c, k8.cg fun c _ => ?_⟩ (hlt hjN)
        unfold upL
        by_cases e : c = j
        · subst e; rw [if_neg (by omega), if_neg (fun h4 => h3 h4.2.2)]
        · by_cases h4 : c < j ∧ done c = false ∧ least1 c < farI
          · rw [if_pos h4, if_pos ⟨by omega, h4.2⟩]
          · rw [if_neg h4, if_neg (fun h5 => h4 ⟨by omega, h5.2⟩)]
  have hjN : j = N := by have := of_decide_eq_false h1; omega
  rw [hjN] at k6 k8
  have Ft := Ft.trans (Fq.mono (by simp))
  have Tt := Tt.fm Fq (by simp <;> omega)
  have k4 := k4.fm Fq (by simp <;> omega)
  have k5 := k5.fm Fq (by simp <;> omega)
  have k7 := k7.fm Fq (by simp <;> omega)
  have k9 := k9.fm Fq (by simp <;> omega)
  have k10 := k10.fm Fq (by simp <;> omega)
  have k11 := k11.fm Fq (by simp <;> omega)
  clear hlt hkk1 hz1 h1 hj Fq
  generalize upP p Rl (least1 nx) = p2 at *
  generalize upQ q done (least1 nx) N = q2 at *
  generalize upL least1 done (least1 nx) N = least2 at *
  refine k10.setB hnx fun g6 F1 k10 => ?_
  have Ft := Ft.trans (F1.mono (by simp))
  have Tt := Tt.fm F1 (by simp <;> omega)
  have k4 := k4.fm F1 (by simp <;> omega)
  have k5 := k5.fm F1 (by simp <;> omega)
  have k6 := k6.fm F1 (by simp <;> omega)
  have k7 := k7.fm F1 (by simp <;> omega)
  have k8 := k8.fm F1 (by simp <;> omega)
  have k9 := k9.fm F1 (by simp <;> omega)
  have k11 := k11.fm F1 (by simp <;> omega)
  clear F1
  refine ptrP_mk ⟨_, k4.ld rfl, k7.rdI hnx (ifP_of (fun h1 => ?_) (fun h1 => ?_))⟩
  · -- the way back
    have h1 := of_decide_eq_true h1
    have hr : row nx = -1 := by
      rcases Tk2.ma nx hnx with ⟨h, _⟩ | ⟨u, _, h, _⟩
      · exact h
      · omega
    have Hl := Tk2.hole hnx hd lz hr
    generalize (fun c => if c = nx then t else rk_ c) = rk2 at *
    let I5 : (Int × Unit) → H → Nat → Prop := fun s g7 z => ∃ row' : Nat → Int, Fm [7] ow g6 ow g7 ∧ S1 ow g7 7 vr (ints N row') ∧ ((s.1 = -1 ∧ z = 0 ∧ HgP N wd (v + 1) (wgE es bs) p2 q2 row') ∨ ∃ c : Nat, s.1 = c ∧ z = rk2 c + 1 ∧ HlP N wd v (wgE es bs) p2 q2 row' frm1 done rk2 c)
    refine ⟨fun p q => ∃ k, I5 p q k, rk I5, rk_wf I5, ⟨_, row, Fm.refl, k7, .inr ⟨nx, rfl, rfl, Hl⟩⟩, ?_⟩
    clear k7 Hl
    intro c g7 hI
    obtain ⟨row', Fq, k7, hc⟩ := mu_spec hI
    generalize hkk1 : mu I5 ((c, ()), g7) = km1 at *
    change (c = -1 ∧ _) ∨ ∃ c' : Nat, c = c' ∧ _ at hc
    clear hI
    refine ifP_of (fun h2 => ?_) (fun h2 => ?_)
    · have h2 := of_decide_eq_true h2
      rcases hc with ⟨h3, _⟩ | ⟨c, rfl, hz1, Hl⟩
      · omega
      refine (k9.fm Fq (by simp <;> omega)).rdI Hl.hh (ifP_of (fun h3 => ?_) (fun h3 => ?_))
      · have h3 := of_decide_eq_true h3
        have hm1 : frm1 c = -1 := by
          rcases Hl.tr c Hl.hh (.inl rfl) with ⟨h, _⟩ | ⟨b, u, h, _⟩ <;> omega
        refine ptrP_mk ⟨_, (k4.fm Fq (by simp <;> omega)).ld rfl, k7.setI Hl.hh fun g8 F1 k7 => ?_⟩
        exact mu_next (I := I5) (k := 0) ⟨_, Fq.trans F1, k7, .inl ⟨hm1, rfl, Hl.last h3⟩⟩ (by rw [hkk1, hz1]; omega)
      · have h3 := of_decide_eq_false h3
        obtain ⟨b, hb⟩ : ∃ b : Nat, frm1 c = b := ⟨(frm1 c).toNat, by omega⟩
        obtain ⟨Hl2, hrk, hbN⟩ := Hl.step hb
        rw [hb]
        refine ptrP_mk (ptrP_mk ⟨_, (k4.fm Fq (by simp <;> omega)).ld rfl, _, (k4.fm Fq (by simp <;> omega)).ld rfl, k7.rdI hbN (k7.setI Hl.hh fun g8 F1 k7 => ?_)⟩)
        exact mu_next (I := I5) (k := rk2 b + 1) ⟨_, Fq.trans F1, k7, .inr ⟨b, rfl, rfl, Hl2⟩⟩ (by rw [hkk1, hz1]; omega)
    · have h2 := of_decide_eq_false h2
      rcases hc with ⟨_, _, G⟩ | ⟨c, rfl, _⟩
      · exact ⟨by first | rfl | trivial, ow, p2, q2, row', Ft.trans (Fq.mono (by simp)), ⟨k4.fm Fq (by simp <;> omega), k5.fm Fq (by simp <;> omega), k6.fm Fq (by simp <;> omega), k7⟩, G⟩
      · omega
  · have h1 := of_decide_eq_false h1
    obtain ⟨a', ha'⟩ : ∃ a' : Nat, row nx = a' := ⟨(row nx).toNat, by omega⟩
    obtain ⟨Tk3, na, av'⟩ := Tk2.more hnx hd lz ha'
    refine ptrP_mk ⟨_, k4.ld rfl, k7.rdI hnx ?_⟩
    rw [ha']
    refine k11.push (l := 1) rfl (by simp [Value.oneCell']) (by simp) (by omega) (by rw [natV_length]; omega) ?_
    intro bx g7 r' ow' g8 hbx x7 F1 k11
    have Ft := Ft.trans (F1.mono (by simp))
    have Tt := Tt.fm F1 (by simp <;> omega)
    have k4 := k4.fm F1 (by simp <;> omega)
    have k5 := k5.fm F1 (by simp <;> omega)
    have k6 := k6.fm F1 (by simp <;> omega)
    have k7 := k7.fm F1 (by simp <;> omega)
    have k8 := k8.fm F1 (by simp <;> omega)
    have k9 := k9.fm F1 (by simp <;> omega)
    have k10 := k10.fm F1 (by simp <;> omega)
    refine mu_next (I := I) (k := v + 1 - (Rl ++ [a']).length) ⟨t + 1, a', ow', p2, q2, least2, frm1, _, _, Rl ++ [a'], rfl, rfl, Ft, Tt, k4, k5, k6, k7, k8, k9, k10, by simpa [natV] using k11, Tk3, by simp, .inr ⟨nx, hnx, rfl, by unfold updB; rw [if_pos rfl], ha'⟩⟩ (hltO _ (by simp) (short Tk3.nd fun x hx => Tk3.rlt hx))
end

end Go.Proofs.Ytdblngaacnpgmaa

namespace Go.Proofs.Ytdblngaacnpgmaa
open Go
set_option linter.unusedVariables false
set_option linter.unusedSimpArgs false
set_option maxHeartbeats 1000000

theorem ints_push_ {j : Nat} {f : Nat → Int} : ints (j + 1) f = ints j f ++ [.int .i64 (f j)] := by
  unfold ints; rw [List.range_succ, List.map_append]; rfl
/-- What a way of solving comes to. -/
def ByA (own : Own) (h : H) (left wd m : Nat) (es : Nat → Ed) (r : Res) (h' : H) : Prop :=
  ∃ (own' : Own) (mv pv : Value) (L : List Nat) (pt : Nat → Int), r = .ret (.tuple ⟨[mv, pv]⟩) ∧ Fm [4, 5, 6, 7, 8, 9, 10, 11, 12, 31, 32, 33, 34, 35, 36] own h own' h' ∧ S1 own' h' 12 mv (natV L) ∧ S1 own' h' 5 pv (ints (left + wd) pt) ∧ MaR (left + wd) m left es L pt
theorem ints_split {a b : Nat} {f : Nat → Int} : ints (a + b) f = ints a f ++ ints b fun i => f (a + i) := by
  induction b with
  | zero => simp [ints]
  | succ b ih => rw [show a + (b + 1) = a + b + 1 from rfl, ints_push_, ih, ints_push_, List.append_assoc]
theorem sliceV1_n {b c k : Nat} : sliceV (some (bk b)) c 0 (k : Int) 1 = .slice (some (bk b)) k c := by
  unfold sliceV
  split <;> simp [bk, Addr.add]
theorem S1.takeN {own : Own} {h : H} {i b n c a : Nat} {f : Nat → Int} (s : S1 own h i (.slice (some (bk b)) n c) (ints n f)) (ha : a ≤ n) : S1 own h i (.slice (some (bk b)) a c) (ints a f) := by
  rcases s with ⟨_, e⟩ | ⟨b', hb, c', e, zs, h1, h2, h3⟩
  · cases e
  · rw [Value.slice.injEq, Option.some.injEq] at h1
    obtain ⟨eb, _, rfl⟩ := h1
    have eb : b' = b := by simpa [bk] using eb.symm
    subst eb
    have et : ints n f = ints a f ++ (ints n f).drop a := by
      have : (ints n f).take a = ints a f := by
        unfold ints
        rw [← List.map_take, List.take_range, Nat.min_eq_left ha]
      rw [← this, List.take_append_drop]
    rw [ints_length] at h3
    refine .inr ⟨b', hb, c, e, (ints n f).drop a ++ zs, by rw [ints_length], ?_, ?_⟩
    · rw [← List.append_assoc, ← et]; exact h2
    · rw [ints_length, List.length_append, List.length_drop, ints_length]; omega
section
variable {own : Own} {h : H} {bt left wd m : Nat} {es : Nat → Ed} {bs : Nat → Nat → Nat}
theorem byRows_T (Tt : Tb own h bt left wd m es bs) (B : BsP left wd m es bs) (hs : ∀ i, i < m → lfE es i < left ∧ left ≤ rtE es i ∧ rtE es i < left + wd)
    (hl : left + wd ≤ 1024) (hm : m ≤ 4096) (hk : ∀ v c, 0 ≤ wgE es bs v c ∧ wgE es bs v c ≤ 1048576) :
    T Try.prog F.assign_table_byRows [.pointer (some (bk bt))] h (ByA own h left wd m es) := by
  have hN : left + wd = wd + left := Nat.add_comm _ _
  refine E_assign_table_byRows ?_
  unfold B_assign_table_byRows
  obtain ⟨vb, vc, vals, k1, _⟩ := Tt.q
  refine ptrP_mk (ptrP_mk ⟨_, k1.ld rfl, _, k1.ld rfl, ptrP_mk (ptrP_mk (ptrP_mk ⟨_, k1.ld rfl, _, k1.ld rfl, _, k1.ld rfl, ?_⟩))⟩)
  have ew : IntKind.i64.wrap (((left + wd : Nat) : Int) - left) = (wd : Int) := by rw [show ((left + wd : Nat) : Int) - left = wd by omega]; exact w64_in (by omega) (by omega)
  simp only [ew]
  clear k1
  refine mk_ints 5 (by omega) (by omega) ?_
  intro b11 h12 hb11 x11 k5
  have Ft : Fm [4, 5, 6, 7, 8, 9, 10, 11, 12, 31, 32, 33, 34, 35, 36] own h (own1 own b11 5) h12 := Fm.new x11 hb11
  have Tt := Tt.nw (j := 5) x11 hb11
  have k5 := k5 own
  generalize own1 own b11 5 = ow at *
  refine mk_ints 6 (by omega) (by omega) ?_
  intro b13 h14 hb13 x13 k6
  have Ft := Ft.trans (Fm.new (i := 6) x13 hb13)
  have Tt := Tt.nw (j := 6) x13 hb13
  have k5 := k5.nw (j := 6) x13 hb13
  have k6 := k6 ow
  generalize own1 ow b13 6 = ow at *
  refine mk_ints 7 (by omega) (by omega) ?_
  intro b15 h16 hb15 x15 k7
  have Ft := Ft.trans (Fm.new (i := 7) x15 hb15)
  have Tt := Tt.nw (j := 7) x15 hb15
  have k5 := k5.nw (j := 7) x15 hb15
  have k6 := k6.nw (j := 7) x15 hb15
  have k7 := k7 ow
  generalize own1 ow b15 7 = ow at *
  simp only [Int.toNat_natCast]
  refine oneP_ptr (new_bl ?_)
  intro b17 h18 hb17 x17 B17
  have Ft := Ft.trans (Fm.new (i := 4) x17 hb17)
  have k4 : B1 (own1 ow b17 4) h18 4 b17 _ := B1.new B17
  have Tt := Tt.nw (j := 4) x17 hb17
  have k5 := k5.nw (j := 4) x17 hb17
  have k6 := k6.nw (j := 4) x17 hb17
  have k7 := k7.nw (j := 4) x17 hb17
  generalize own1 ow b17 4 = ow at *
  clear hb11 x11 hb13 x13 hb15 x15 hb17 x17 B17
  refine ⟨_, k4.ld rfl, slcP_mk ?_⟩
  -- no column has a row
  let I0 : (Int × Unit) → H → Nat → Prop := fun s g z => ∃ j : Nat, s.1 = j ∧ j ≤ left + wd ∧ z = left + wd - j ∧ Fm [7] ow h18 ow g ∧ S1 ow g 7 (.slice (some (bk b15)) (left + wd) (left + wd)) (ints (left + wd) fun c => if c < j then -1 else 0)
  refine ⟨fun p q => ∃ k, I0 p q k, rk I0, rk_wf I0, ⟨_, 0, rfl, by omega, rfl, Fm.refl, k7.cg fun c _ => (if_neg (by omega)).symm⟩, ?_⟩
  clear k7
  intro s g hI
  obtain ⟨j, e1, hj, hz, Fq, k7⟩ := mu_spec hI
  generalize hkk : mu I0 ((s, ()), g) = km at *
  change s = (j : Int) at e1
  subst e1
  have hlt : j < left + wd → left + wd - (j + 1) < mu I0 (((j : Int), ()), g) := fun h => by rw [hkk, hz]; exact sub_dec h
  clear hI
  refine ifP_of (fun h1 => ?_) (fun h1 => ?_)
  · have hjN : j < left + wd := by have := of_decide_eq_true h1; omega
    refine ⟨_, (k4.fm Fq (by simp <;> omega)).ld rfl, k7.setI hjN fun g1 F1 k7 => ?_⟩
    rw [i64_inc (by omega)]
    refine mu_next (I := I0) (k := left + wd - (j + 1)) ⟨j + 1, rfl, hjN, rfl, Fq.trans F1, k7.cg fun c _ => upd_to (g := fun _ => -1) (f := fun _ => 0) rfl c⟩ (hlt hjN)
  have hjN : j = left + wd := by have := of_decide_eq_false h1; omega
  have k7 : S1 ow g 7 (.slice (some (bk b15)) (left + wd) (left + wd)) (ints (left + wd) fun _ => -1) := k7.cg fun c hc => if_pos (by omega)
  have Ft := Ft.trans (Fq.mono (by simp))
  have Tt := Tt.fm Fq (by simp <;> omega)
  have k4 := k4.fm Fq (by simp <;> omega)
  have k5 := k5.fm Fq (by simp <;> omega)
  have k6 := k6.fm Fq (by simp <;> omega)
  clear hlt hkk hz h1 hj Fq hjN
  have G0 : HgP (left + wd) wd 0 (wgE es bs) (fun _ => 0) (fun _ => 0) (fun _ => -1) := ⟨fun u hu => by omega, fun c hc => .inl ⟨rfl, rfl⟩, fun c c' hc hc' h => by omega, fun u hu => by omega, fun c hc => by show (0 : Int) ≤ 0 ∧ (0 : Int) ≤ (0 : Nat) * 1048576; omega, fun u _ => rfl, fun u hu => by omega⟩
  obtain ⟨vb, vc, vals, k1, _⟩ := Tt.q
  refine ptrP_mk ⟨_, k1.ld rfl, ?_⟩
  clear k1
  -- the rows
  let I1 : (Int × Unit) → H → Nat → Prop := fun s g z => ∃ (j : Nat) (ow : Own) (p q row : Nat → Int), s.1 = j ∧ j ≤ left ∧ z = left - j ∧ Fm [4, 5, 6, 7, 8, 9, 10, 11, 12, 31, 32, 33, 34, 35, 36] own h ow g ∧ Tb ow g bt left wd m es bs ∧
    Rw ow g b17 bt left wd (left + wd) (.slice (some (bk b11)) left left) (.slice (some (bk b13)) (left + wd) (left + wd)) (.slice (some (bk b15)) (left + wd) (left + wd)) p q row ∧ HgP (left + wd) wd j (wgE es bs) p q row
  refine ⟨fun p q => ∃ k, I1 p q k, rk I1, rk_wf I1, ⟨_, 0, ow, _, _, _, rfl, by omega, rfl, Ft, Tt, ⟨k4, k5, k6, k7⟩, G0⟩, ?_⟩
  clear Ft Tt k4 k5 k6 k7 G0
  intro s g hI
  obtain ⟨j, ow, p, q, row, e1, hj, hz, Ft, Tt, Rr, G⟩ := mu_spec hI
  generalize hkk : mu I1 ((s, ()), g) = km at *
  change s = (j : Int) at e1
  subst e1
  have hlt : j < left → left - (j + 1) < mu I1 (((j : Int), ()), g) := fun h => by rw [hkk, hz]; exact sub_dec h
  clear hI
  refine ifP_of (fun h1 => ?_) (fun h1 => ?_)
  · have hjl : j < left := by have := of_decide_eq_true h1; omega
    refine (take_T Tt B Rr G hjl hN hl hm hk).mono ?_
    rintro _ g1 ⟨rfl, ow', p', q', row', F1, Rr, G⟩
    rw [i64_inc (by omega)]
    exact rt_ret ⟨rfl, mu_next (I := I1) (k := left - (j + 1)) ⟨j + 1, ow', p', q', row', rfl, hjl, rfl, Ft.trans (F1.mono (by simp)), Tt.fm F1 (by simp), Rr, G⟩ (hlt hjl)⟩
  have hjl : j = left := by have := of_decide_eq_false h1; omega
  rw [hjl] at G
  clear hlt hkk hz h1 hj hjl
  obtain ⟨k4, k5, k6, k7⟩ := Rr
  have res := G.res hN hl B hs
  refine ⟨_, k4.ld rfl, slcP_mk ⟨by omega, by omega, by omega, by omega, ?_⟩⟩
  rw [sliceV1_n]
  have kr := k7.takeN (show wd ≤ left + wd by omega)
  refine kr.len (ints_length _ _) fun _ _ => ?_
  let I2 : (Value × Int × Unit) → H → Nat → Prop := fun s g2 z => ∃ (j : Nat) (ow2 : Own), s.2.1 = j ∧ j ≤ wd ∧ z = wd - j ∧ Fm [12] ow g ow2 g2 ∧ S1 ow2 g2 12 s.1 (natV (mlH bs row j))
  refine ⟨fun p q => ∃ k, I2 p q k, rk I2, rk_wf I2, ⟨_, 0, ow, rfl, by omega, rfl, Fm.refl, S1.nil⟩, ?_⟩
  intro mv s g2 hI
  obtain ⟨j, ow2, e1, hj, hz, Fq, k12⟩ := mu_spec hI
  generalize hkk : mu I2 ((mv, s, ()), g2) = km at *
  change s = (j : Int) at e1
  change S1 ow2 g2 12 mv _ at k12
  subst e1
  have hlt : j < wd → wd - (j + 1) < mu I2 ((mv, (j : Int), ()), g2) := fun h => by rw [hkk, hz]; exact sub_dec h
  clear hI
  have Tq := Tt.fm Fq (by simp)
  refine ifP_of (fun h1 => ?_) (fun h1 => ?_)
  · have hjw : j < wd := by have := of_decide_eq_true h1; omega
    rw [i64_inc (by omega)]
    have em : ¬ (0 ≤ row j ∧ 0 < bs (row j).toNat j) → mlH bs row (j + 1) = mlH bs row j := fun hno => by
      show mlH bs row j ++ (if 0 ≤ row j ∧ 0 < bs (row j).toNat j then [bs (row j).toNat j - 1] else []) = _
      rw [if_neg hno, List.append_nil]
    have skip : ¬ (0 ≤ row j ∧ 0 < bs (row j).toNat j) → (∃ k, I2 (mv, ((j + 1 : Nat) : Int), ()) g2 k) ∧ rk I2 ((mv, ((j + 1 : Nat) : Int), ()), g2) ((mv, (j : Int), ()), g2) := fun hno =>
      mu_next (I := I2) (k := wd - (j + 1)) ⟨j + 1, ow2, rfl, hjw, rfl, Fq, by show S1 ow2 g2 12 mv (natV (mlH bs row (j + 1))); rw [em hno]; exact k12⟩ (hlt hjw)
    refine (kr.fm Fq (by simp <;> omega)).rdI hjw (ifP_of (fun h2 => ?_) (fun h2 => skip fun k => by have := of_decide_eq_false h2; omega))
    have h2 := of_decide_eq_true h2
    obtain ⟨u, hu⟩ : ∃ u : Nat, row j = u := ⟨(row j).toNat, by omega⟩
    have hul : u < left := by
      rcases G.rc (c := j) (by omega) with h | ⟨_, h⟩ <;> omega
    rw [hu]
    obtain ⟨vb, vc, vals, k1, k2, k3, kv⟩ := Tq.q
    have bm := B.bm u j hul hjw
    refine ptrP_mk ⟨_, k1.ld rfl, k2.rdV hul ((kv u hul).rdI hjw (ifP_of (fun h3 => ?_) (fun h3 => skip fun k => by
      have := of_decide_eq_false h3
      rw [hu, Int.toNat_natCast] at k; omega)))⟩
    have h3 : 0 < bs u j := by have := of_decide_eq_true h3; omega
    refine ptrP_mk ⟨_, k1.ld rfl, k2.rdV hul ((kv u hul).rdI hjw ?_)⟩
    have e2 : IntKind.i64.wrap ((bs u j : Int) - 1) = ((bs u j - 1 : Nat) : Int) := by rw [show ((bs u j : Int) - 1) = ((bs u j - 1 : Nat) : Int) by omega]; exact w64_in (by omega) (by omega)
    rw [e2]
    have ml := mlH_len (bs := bs) (row := row) (j := j)
    refine k12.push (l := 1) rfl (by simp [Value.oneCell']) (by simp) (by omega) (by rw [natV_length]; omega) ?_
    intro bx g3 r' ow' g4 hbx x7 F1 k12
    refine mu_next (I := I2) (k := wd - (j + 1)) ⟨j + 1, ow', rfl, hjw, rfl, Fq.trans F1, ?_⟩ (hlt hjw)
    show S1 ow' g4 12 r' (natV (mlH bs row j ++ (if 0 ≤ row j ∧ 0 < bs (row j).toNat j then [bs (row j).toNat j - 1] else [])))
    rw [if_pos (by rw [hu, Int.toNat_natCast]; exact ⟨by omega, h3⟩), hu, Int.toNat_natCast]
    simpa [natV] using k12
  have hjw : j = wd := by have := of_decide_eq_false h1; omega
  rw [hjw] at k12
  have Ft := Ft.trans (Fq.mono (by simp))
  have k4 := k4.fm Fq (by simp <;> omega)
  have k5 := k5.fm Fq (by simp <;> omega)
  have k6 := k6.fm Fq (by simp <;> omega)
  have kr := kr.fm Fq (by simp <;> omega)
  clear hlt hkk hz h1 hj Fq hjw k7 Tq Tt
  -- the potentials
  refine ⟨_, k4.ld rfl, slcP_mk ?_⟩
  let I3 : (Int × Unit) → H → Nat → Prop := fun s g3 z => ∃ j : Nat, s.1 = j ∧ j ≤ left ∧ z = left - j ∧ Fm [5] ow2 g2 ow2 g3 ∧ S1 ow2 g3 5 (.slice (some (bk b11)) left left) (ints left fun u => if u < j then (if p u < 0 then 0 else p u) else p u)
  refine ⟨fun p q => ∃ k, I3 p q k, rk I3, rk_wf I3, ⟨_, 0, rfl, by omega, rfl, Fm.refl, k5.cg fun u _ => (if_neg (by omega)).symm⟩, ?_⟩
  clear k5
  intro s g3 hI
  obtain ⟨j, e1, hj, hz, Fq, k5⟩ := mu_spec hI
  generalize hkk : mu I3 ((s, ()), g3) = km at *
  change s = (j : Int) at e1
  subst e1
  have hlt : j < left → left - (j + 1) < mu I3 (((j : Int), ()), g3) := fun h => by rw [hkk, hz]; exact sub_dec h
  clear hI
  refine ifP_of (fun h1 => ?_) (fun h1 => ?_)
  · have hjl : j < left := by have := of_decide_eq_true h1; omega
    have k4q := k4.fm Fq (by simp <;> omega)
    refine ⟨_, k4q.ld rfl, _, k4q.ld rfl, k5.rdI hjl (k5.setI hjl fun g4 F1 k5 => ?_)⟩
    rw [i64_inc (by omega)]
    refine mu_next (I := I3) (k := left - (j + 1)) ⟨j + 1, rfl, hjl, rfl, Fq.trans F1, k5.cg fun u _ => upd_to (g := fun u => if p u < 0 then 0 else p u) (f := p) (by rw [if_neg (Nat.lt_irrefl _)]) u⟩ (hlt hjl)
  have hjl : j = left := by have := of_decide_eq_false h1; omega
  have Ft := Ft.trans (Fq.mono (by simp))
  have k4 := k4.fm Fq (by simp <;> omega)
  have k6 := k6.fm Fq (by simp <;> omega)
  have k12 := k12.fm Fq (by simp <;> omega)
  refine ⟨_, k4.ld rfl, _, k4.ld rfl, slcP_mk ⟨by omega, by omega, by omega, by omega, ?_⟩⟩
  rw [sliceV1_n]
  have kq := k6.takeN (show wd ≤ left + wd by omega)
  refine k5.catR (RS.of_S1 kq) (ints_o1 _ _) (by omega) (by rw [ints_length, ints_length]; omega) ?_
  intro pv ow' g5 F1 k5
  have Ft := Ft.trans (F1.mono (by simp))
  have k12 := k12.fm F1 (by simp <;> omega)
  refine ⟨ow', mv, pv, _, _, rfl, Ft, k12, ?_, res⟩
  have e : (ints left fun u => if u < j then (if p u < 0 then 0 else p u) else p u) ++ ints wd q = ints (left + wd) (ptH left p q) := by
    rw [ints_split]
    congr 1
    · refine ints_ext fun u hu => ?_
      unfold ptH
      rw [if_pos (by omega), if_pos hu]
    · refine ints_ext fun c _ => ?_
      unfold ptH
      rw [if_neg (by omega), show left + c - left = c by omega]
  rw [← e]; exact k5
end

end Go.Proofs.Ytdblngaacnpgmaa

namespace Go.Proofs.Ytdblngaacnpgmaa
open Go
set_option linter.unusedVariables false
set_option linter.unusedSimpArgs false

theorem ahd_nt {key : Nat → Int} {a b c : Nat} (h1 : ¬ ahd key a b) (h2 : ¬ ahd key b c) : ¬ ahd key a c := by unfold ahd at *; omega
theorem ahd_as {key : Nat → Int} {a b : Nat} (h1 : ahd key a b) : ¬ ahd key b a := by unfold ahd at *; omega
/-- All k places hold what A says, each below its parent. -/
structure HpP (k : Nat) (hp : Nat → Nat) (pl : Nat → Int) (A : Nat → Prop) (key : Nat → Int) : Prop where
  in_ : ∀ j, j < k → A (hp j) ∧ pl (hp j) = j
  on : ∀ v, A v → ∃ j, j < k ∧ hp j = v
  od : ∀ j, 0 < j → j < k → ¬ ahd key (hp j) (hp ((j - 1) / 2))
/-- The place i is free; x is to be put in. -/
structure HoP (k : Nat) (hp : Nat → Nat) (pl : Nat → Int) (A : Nat → Prop) (key : Nat → Int) (i x : Nat) : Prop where
  ik : i < k
  ax : A x
  in_ : ∀ j, j < k → j ≠ i → A (hp j) ∧ hp j ≠ x ∧ pl (hp j) = j
  on : ∀ v, A v → v = x ∨ ∃ j, j < k ∧ j ≠ i ∧ hp j = v
  od : ∀ j, 0 < j → j < k → j ≠ i → (j - 1) / 2 ≠ i → ¬ ahd key (hp j) (hp ((j - 1) / 2))
  gp : ∀ j, 0 < j → j < k → (j - 1) / 2 = i → 0 < i → ¬ ahd key (hp j) (hp ((i - 1) / 2))
def UpP (k : Nat) (hp : Nat → Nat) (key : Nat → Int) (i x : Nat) : Prop := ∀ j, 0 < j → j < k → (j - 1) / 2 = i → ¬ ahd key (hp j) x
def DnP (hp : Nat → Nat) (key : Nat → Int) (i x : Nat) : Prop := 0 < i → ¬ ahd key x (hp ((i - 1) / 2))
section
variable {k i x : Nat} {hp : Nat → Nat} {pl : Nat → Int} {A : Nat → Prop} {key : Nat → Int}
theorem HpP.inj (G : HpP k hp pl A key) {a b : Nat} (ha : a < k) (hb : b < k) (e : hp a = hp b) : a = b := by
  have h1 := (G.in_ a ha).2
  have h2 := (G.in_ b hb).2
  rw [e] at h1; omega
theorem HoP.inj (G : HoP k hp pl A key i x) {a b : Nat} (ha : a < k) (hb : b < k) (na : a ≠ i) (nb : b ≠ i) (e : hp a = hp b) : a = b := by
  have h1 := (G.in_ a ha na).2.2
  have h2 := (G.in_ b hb nb).2.2
  rw [e] at h1; omega
/-- The first is ahead of all. -/
theorem HpP.top (G : HpP k hp pl A key) : ∀ j, j < k → hp 0 = hp j ∨ ahd key (hp 0) (hp j) := by
  intro j
  induction j using Nat.strongRecOn with
  | ind j ih =>
    intro hj
    by_cases h0 : j = 0
    · subst h0; exact .inl rfl
    have h1 := ih ((j - 1) / 2) (by omega) (by omega)
    have h2 := G.od j (by omega) hj
    have ne : hp ((j - 1) / 2) ≠ hp j := fun e => by have := G.inj (by omega) hj e; omega
    have h3 : ahd key (hp ((j - 1) / 2)) (hp j) := by unfold ahd at *; omega
    rcases h1 with h1 | h1
    · rw [h1]; exact .inr h3
    · exact .inr (ahd_tr h1 h3)
theorem HoP.fill (G : HoP k hp pl A key i x) (u : UpP k hp key i x) (d : DnP hp key i x) : HpP k (updN hp i x) (upd pl x i) A key := by
  refine ⟨fun j hj => ?_, fun v hv => ?_, fun j h0 hj => ?_⟩
  · by_cases e : j = i
    · subst e; rw [updN_at, upd_at]; exact ⟨G.ax, rfl⟩
    · obtain ⟨h1, h2, h3⟩ := G.in_ j hj e
      rw [updN_ne e, upd_ne h2]; exact ⟨h1, h3⟩
  · rcases G.on v hv with rfl | ⟨j, hj, hne, e⟩
    · exact ⟨i, G.ik, updN_at⟩
    · exact ⟨j, hj, by rw [updN_ne hne]; exact e⟩
  · by_cases e : j = i
    · subst e
      rw [updN_at, updN_ne (by omega)]; exact d h0
    · rw [updN_ne e]
      by_cases e2 : (j - 1) / 2 = i
      · rw [e2, updN_at]; exact u j h0 hj e2
      · rw [updN_ne e2]; exact G.od j h0 hj e e2
/-- The hole goes up. -/
theorem HoP.up (G : HoP k hp pl A key i x) (u : UpP k hp key i x) (h0 : 0 < i) (ha : ahd key x (hp ((i - 1) / 2))) :
    HoP k (updN hp i (hp ((i - 1) / 2))) (upd pl (hp ((i - 1) / 2)) i) A key ((i - 1) / 2) x ∧ UpP k (updN hp i (hp ((i - 1) / 2))) key ((i - 1) / 2) x := by
  have ik := G.ik
  generalize hp_ : (i - 1) / 2 = p at *
  have pi : p ≠ i := by omega
  have pk : p < k := by omega
  obtain ⟨a1, a2, a3⟩ := G.in_ p pk pi
  have ne : ∀ j, j ≠ i → updN hp i (hp p) j = hp j := fun j h => updN_ne h
  refine ⟨⟨pk, G.ax, fun j hj hne => ?_, fun v hv => ?_, fun j h1 hj n1 n2 => ?_, fun j h1 hj e1 h2 => ?_⟩, fun j h1 hj e1 => ?_⟩
  · by_cases e : j = i
    · subst e; rw [updN_at, upd_at]; exact ⟨a1, a2, rfl⟩
    · obtain ⟨b1, b2, b3⟩ := G.in_ j hj e
      rw [ne j e, upd_ne (fun e2 => hne (G.inj hj pk e pi e2))]; exact ⟨b1, b2, b3⟩
  · rcases G.on v hv with h | ⟨j, hj, hne, e⟩
    · exact .inl h
    · by_cases e2 : j = p
      · subst e2; exact .inr ⟨i, ik, fun h => pi h.symm, by rw [updN_at]; exact e⟩
      · exact .inr ⟨j, hj, e2, by rw [ne j hne]; exact e⟩
  · by_cases e : j = i
    · subst e; exact absurd hp_ n2
    · rw [ne j e]
      by_cases e2 : (j - 1) / 2 = i
      · rw [e2, updN_at]
        have := G.gp j h1 hj e2 h0
        rwa [hp_] at this
      · rw [ne _ e2]; exact G.od j h1 hj e e2
  · have pp : (p - 1) / 2 ≠ i := by omega
    rw [ne _ pp]
    have op := G.od p h2 pk pi pp
    by_cases e : j = i
    · subst e; rw [updN_at]; exact op
    · rw [ne j e]
      have := G.od j h1 hj e (by rw [e1]; exact pi)
      rw [e1] at this
      exact ahd_nt this op
  · by_cases e : j = i
    · subst e; rw [updN_at]; exact ahd_as ha
    · rw [ne j e]
      have := G.od j h1 hj e (by rw [e1]; exact pi)
      rw [e1] at this
      exact fun h => this (ahd_tr h ha)
/-- The hole goes down. -/
theorem HoP.down (G : HoP k hp pl A key i x) (c : Nat) (hc : c < k) (hi : (c - 1) / 2 = i) (h0 : 0 < c) (ha : ahd key (hp c) x) (hm : ∀ j, 0 < j → j < k → (j - 1) / 2 = i → ¬ ahd key (hp j) (hp c)) :
    HoP k (updN hp i (hp c)) (upd pl (hp c) i) A key c x ∧ DnP (updN hp i (hp c)) key c x := by
  have ik := G.ik
  have ci : c ≠ i := by omega
  obtain ⟨a1, a2, a3⟩ := G.in_ c hc ci
  have ne : ∀ j, j ≠ i → updN hp i (hp c) j = hp j := fun j h => updN_ne h
  refine ⟨⟨hc, G.ax, fun j hj hne => ?_, fun v hv => ?_, fun j h1 hj n1 n2 => ?_, fun j h1 hj e1 h2 => ?_⟩, fun h1 => ?_⟩
  · by_cases e : j = i
    · subst e; rw [updN_at, upd_at]; exact ⟨a1, a2, rfl⟩
    · obtain ⟨b1, b2, b3⟩ := G.in_ j hj e
      rw [ne j e, upd_ne (fun e2 => hne (G.inj hj hc e ci e2))]; exact ⟨b1, b2, b3⟩
  · rcases G.on v hv with h | ⟨j, hj, hne, e⟩
    · exact .inl h
    · by_cases e2 : j = c
      · subst e2; exact .inr ⟨i, ik, fun h => ci h.symm, by rw [updN_at]; exact e⟩
      · exact .inr ⟨j, hj, e2, by rw [ne j hne]; exact e⟩
  · by_cases e : j = i
    · subst e
      rw [updN_at, ne _ (by omega)]
      exact G.gp c h0 hc hi h1
    · rw [ne j e]
      by_cases e2 : (j - 1) / 2 = i
      · rw [e2, updN_at]; exact hm j h1 hj e2
      · rw [ne _ e2]; exact G.od j h1 hj e e2
  · rw [hi, updN_at, ne j (by omega)]
    have := G.od j h1 hj (by omega) (by rw [e1]; exact ci)
    rwa [e1] at this
  · rw [hi, updN_at]; exact ahd_as ha
/-- One more is put behind all. -/
theorem HpP.more (G : HpP k hp pl A key) (hx : ¬ A x) : HoP (k + 1) hp pl (fun v => A v ∨ v = x) key k x ∧ UpP (k + 1) hp key k x := by
  refine ⟨⟨by omega, .inr rfl, fun j hj hne => ?_, fun v hv => ?_, fun j h0 hj n1 n2 => G.od j h0 (by omega), fun j h0 hj e1 h2 => by omega⟩, fun j h0 hj e1 => by omega⟩
  · obtain ⟨h1, h2⟩ := G.in_ j (by omega)
    exact ⟨.inl h1, fun e => hx (e ▸ h1), h2⟩
  · rcases hv with hv | hv
    · obtain ⟨j, hj, e⟩ := G.on v hv
      exact .inr ⟨j, by omega, by omega, e⟩
    · exact .inl hv
/-- A key is lowered. -/
theorem HpP.low {key' : Nat → Int} (G : HpP k hp pl A key) (hi : i < k) (hk : key' (hp i) ≤ key (hp i)) (ho : ∀ v, v ≠ hp i → key' v = key v) : HoP k hp pl A key' i (hp i) ∧ UpP k hp key' i (hp i) := by
  have ni : ∀ j, j < k → j ≠ i → hp j ≠ hp i := fun j hj hne e => hne (G.inj hj hi e)
  refine ⟨⟨hi, (G.in_ i hi).1, fun j hj hne => ⟨(G.in_ j hj).1, ni j hj hne, (G.in_ j hj).2⟩, fun v hv => ?_, fun j h0 hj n1 n2 => ?_, fun j h0 hj e1 h2 => ?_⟩, fun j h0 hj e1 => ?_⟩
  · obtain ⟨j, hj, e⟩ := G.on v hv
    by_cases h : j = i
    · subst h; exact .inl e.symm
    · exact .inr ⟨j, hj, h, e⟩
  · have := G.od j h0 hj
    unfold ahd at *
    rw [ho _ (ni j hj n1), ho _ (ni _ (by omega) n2)]; exact this
  · have h3 := G.od j h0 hj
    have h4 := G.od i h2 hi
    rw [e1] at h3
    have h5 := ahd_nt h3 h4
    unfold ahd at *
    rw [ho _ (ni j hj (by omega)), ho _ (ni _ (by omega) (by omega))]; exact h5
  · have h3 := G.od j h0 hj
    rw [e1] at h3
    unfold ahd at *
    rw [ho _ (ni j hj (by omega))]; omega
/-- The first is taken out; the last is to be put in again. -/
theorem HpP.take (G : HpP (k + 1) hp pl A key) (hk : 0 < k) : HoP k hp pl (fun v => A v ∧ v ≠ hp 0) key 0 (hp k) ∧ DnP hp key 0 (hp k) := by
  have ni : ∀ a b, a < k + 1 → b < k + 1 → a ≠ b → hp a ≠ hp b := fun a b ha hb hne e => hne (G.inj ha hb e)
  refine ⟨⟨hk, ⟨(G.in_ k (by omega)).1, ni _ _ (by omega) (by omega) (by omega)⟩, fun j hj hne => ⟨⟨(G.in_ j (by omega)).1, ni _ _ (by omega) (by omega) hne⟩, ni _ _ (by omega) (by omega) (by omega), (G.in_ j (by omega)).2⟩, fun v hv => ?_, fun j h0 hj n1 n2 => G.od j h0 (by omega), fun j h0 hj e1 h2 => by omega⟩, fun h => by omega⟩
  obtain ⟨j, hj, e⟩ := G.on v hv.1
  have j0 : j ≠ 0 := fun h => by subst h; exact hv.2 e.symm
  by_cases h : j = k
  · subst h; exact .inl e.symm
  · exact .inr ⟨j, by omega, j0, e⟩
theorem HpP.last (G : HpP 1 hp pl A key) : HpP 0 hp pl (fun v => A v ∧ v ≠ hp 0) key := by
  refine ⟨fun j hj => by omega, fun v hv => ?_, fun j h0 hj => by omega⟩
  obtain ⟨j, hj, e⟩ := G.on v hv.1
  have : j = 0 := by omega
  subst this
  exact absurd e.symm hv.2
theorem HpP.uset {A' : Nat → Prop} (G : HpP k hp pl A key) (h : ∀ v, A' v ↔ A v) : HpP k hp pl A' key := ⟨fun j hj => ⟨(h _).2 (G.in_ j hj).1, (G.in_ j hj).2⟩, fun v hv => G.on v ((h v).1 hv), G.od⟩
theorem HpP.rekey {key' : Nat → Int} (G : HpP k hp pl A key) (h : ∀ v, A v → key' v = key v) : HpP k hp pl A key' := ⟨G.in_, G.on, fun j h0 hj => by
  have := G.od j h0 hj
  unfold ahd at *
  rw [h _ (G.in_ j hj).1, h _ (G.in_ _ (by omega)).1]; exact this⟩
end

end Go.Proofs.Ytdblngaacnpgmaa

