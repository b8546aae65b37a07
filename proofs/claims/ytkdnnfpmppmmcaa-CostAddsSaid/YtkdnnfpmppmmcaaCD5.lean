import Derived.Test.YtkdnnfpmppmmcaaProg
import Derived.Test.YtkdnnfpmppmmcaaCD4
namespace Go.Proofs.Ytkdnnfpmppmmcaa
open Go Go.ChangeShapes Go.WideShapes Go.ChangeAt Go.RowKit
set_option linter.unusedVariables false

theorem own : ownKnob Try.prog.godebug = none := by kernel_rfl
theorem laidOut : laidOutB Try.prog = true := by kernel_rfl

end Go.Proofs.Ytkdnnfpmppmmcaa

namespace Go.Proofs.Ytkdnnfpmppmmcaa
open Go
set_option linter.unusedVariables false
set_option linter.unusedSimpArgs false

/-- Another cost at a place. -/
def cstE (es : Nat → Ed) (j : Nat) (x : Int) (i : Nat) : Ed := if i = j then ⟨(es i).f, (es i).t, (es i).c, x⟩ else es i
theorem S4.setK {own : Own} {h : H} {i m : Nat} {v : Value} {es : Nat → Ed} {j : Nat} {x : Int} {K : H → Prop} (s : S4 own h i v m es) (hj : j < m)
    (k : ∀ g, Fm [i] own h own g → S4 own g i v m (cstE es j x) → K g) : ixS v (j : Int) 4 fun a => stC h (a.add 3) (.int .i64 x) K := by
  rcases s with ⟨rfl, _⟩ | ⟨b, c, e, zs, hb, rfl, h2, h3⟩
  · omega
  · refine nx hj ?_
    rw [bk_add, bk_add2]
    have hlt : j * 4 + 3 < m * 4 := at_lt hj (by omega)
    have e2 : hset h ⟨b, j * 4 + 3, none⟩ [.int .i64 x] b = some (.cells ⟨recs m 4 (edF (cstE es j x)) ++ zs⟩ e (0, 0)) := by
      unfold hset
      rw [if_pos rfl, h2]
      simp only [Option.map_some, setR]
      rw [List.setIfInBounds_toArray, List.set_append_left _ _ (by rw [recs_length]; exact hlt), recs_set hj (by omega)]
      congr 4
      have : ∀ l, l < m → ∀ q, q < 4 → upd2 (edF es) j 3 x l q = edF (cstE es j x) l q := fun l hl q hq => by
        unfold upd2 edF cstE
        by_cases e1 : l = j
        · subst e1
          rw [if_pos rfl]
          match q with
          | 0 => rw [if_neg (fun h => by cases h.2)]; rfl
          | 1 => rw [if_neg (fun h => by cases h.2)]; rfl
          | 2 => rw [if_neg (fun h => by cases h.2)]; rfl
          | 3 => rw [if_pos ⟨rfl, rfl⟩]; rfl
          | q + 4 => omega
        · rw [if_neg (fun h => e1 h.1), if_neg e1]
      unfold recs
      refine ints_ext fun i hi => ?_
      exact this _ (Nat.div_lt_of_lt_mul (by rw [Nat.mul_comm]; exact hi)) _ (Nat.mod_lt _ (by omega))
    refine ⟨⟨_, _, h2, rfl, ?_⟩, k _ (Fm.kp (b := b) ?_ hb ⟨_, e2⟩) (.inr ⟨b, c, e, zs, hb, rfl, e2, h3⟩)⟩
    · simp only [List.size_toArray, List.length_append, recs_length]; omega
    · intro k o hk hh
      unfold hset
      rw [if_neg hk]; exact hh
end Go.Proofs.Ytkdnnfpmppmmcaa

namespace Go.Proofs.Ytkdnnfpmppmmcaa
open Go
set_option linter.unusedVariables false
set_option linter.unusedSimpArgs false

/-- One number is appended, however long the slice is. -/
theorem S1.push1 {own : Own} {h : H} {i ex : Nat} {p z x : Value} {vs : List Value} {K : Nat → H → Value → H → Prop} {e bytes : Nat} (s : S1 own h i p vs)
    (one : x.oneCell' = true) (hb : bytes ≤ 8) (hl : vs.length ≤ 17592186044416)
    (k : ∀ bx hm p' own' h', h bx = none → Ext h hm → Fm [i] own h own' h' → S1 own' h' i p' (vs ++ [x]) → K bx hm p' h') :
    newP h (.cells ⟨[x]⟩ ex (0, 0)) fun bx hm => apP p (.slice (some (bk bx)) 1 1) hm 1 e bytes [z] (K bx hm) := by
  refine new_put ?_
  intro bx hm hbx xm hx
  have hsrc : srcP hm (some (bk bx)) (1 * 1) [x] := by
    refine ⟨rfl, fun j v hj => ?_⟩
    rw [bk_add, hcell_at hx, List.getElem?_toArray]
    exact hj
  have hzl : ∀ m, (zrep [z] m).length = m := by intro m; simp [zrep]
  rcases s with ⟨rfl, rfl⟩ | ⟨b, hob, c, eb, zs, rfl, h2, h3⟩
  · refine ⟨[x], hsrc, fun hle => by omega, fun hlt => ⟨?_, [], ⟨rfl, rfl⟩, fun cap hcap => ?_⟩⟩
    · have := nextcap_le hlt
      calc _ ≤ (2 * (0 + 1) + 192) * bytes := Nat.mul_le_mul_right _ this
        _ ≤ (2 * (0 + 1) + 192) * 8 := Nat.mul_le_mul_left _ hb
        _ ≤ _ := by omega
    · refine new_put ?_
      intro b g hbn x1 e1
      rw [Nat.zero_add] at e1 hcap ⊢
      refine k bx hm _ (own1 own b i) g hbx xm (Fm.new (xm.trans' x1) (xm.new hbn)) (.inr ⟨b, own1_at, cap, e, zrep [z] (cap - 1), rfl, by rw [e1], ?_⟩)
      rw [hzl]; simp; omega
  · have h2m := xm _ _ h2
    refine ⟨[x], hsrc, fun hle => ⟨fun _ => ?_, by simpa using one, ?_⟩, fun hlt => ⟨?_, vs, ⟨by rw [Nat.mul_one], ?_⟩, fun cap hcap => ?_⟩⟩
    · rw [bk_add]
      refine ⟨_, _, h2m, rfl, ?_⟩
      simp only [List.size_toArray, List.length_append, List.length_singleton]
      omega
    · rw [bk_add]
      have e2 : hset hm ⟨b, vs.length * 1, none⟩ [x] b = some (.cells ⟨vs ++ [x] ++ zs.drop 1⟩ eb (0, 0)) := by
        unfold hset
        rw [if_pos rfl, h2m]
        simp only [Option.map_some, Nat.mul_one]
        rw [setR_list _ _ _ (by simp; omega)]
        simp [List.take_append, List.drop_append]
      refine k bx hm _ own _ hbx xm ((Fm.of_ext xm).trans (Fm.kp (b := b) ?_ hob ⟨_, e2⟩)) (.inr ⟨b, hob, c, eb, zs.drop 1, by simp, e2, by simp; omega⟩)
      intro j o hj hh
      unfold hset
      rw [if_neg hj]; exact hh
    · have hcm : c = vs.length := by omega
      subst hcm
      calc _ ≤ (vs.length + vs.length / 4 + 600) * bytes := Nat.mul_le_mul_right _ nextcap1_le
        _ ≤ (vs.length + vs.length / 4 + 600) * 8 := Nat.mul_le_mul_left _ hb
        _ ≤ _ := by omega
    · intro j v hj
      rw [bk_add, hcell_at h2m, List.getElem?_toArray]
      have := (List.getElem?_eq_some_iff.1 hj).1
      rw [List.getElem?_append_left this]
      exact hj
    · refine new_put ?_
      intro b' g hbn x1 e1
      refine k bx hm _ (own1 own b' i) g hbx xm (Fm.new (xm.trans' x1) (xm.new hbn)) (.inr ⟨b', own1_at, cap, e, zrep [z] (cap - (vs.length + 1)), by simp, by rw [e1], ?_⟩)
      rw [hzl]; simp; omega
theorem ints_push {j : Nat} {f : Nat → Int} : ints (j + 1) f = ints j f ++ [.int .i64 (f j)] := by
  unfold ints; rw [List.range_succ, List.map_append]; rfl

end Go.Proofs.Ytkdnnfpmppmmcaa

namespace Go.Proofs.Ytkdnnfpmppmmcaa
open Go
set_option linter.unusedVariables false
set_option linter.unusedSimpArgs false

/-- The code and the cost that Solve answers. -/
def OutC (n : Int) (m : Nat) (es : Nat → Ed) (l : Nat) (bf : Nat → Int) (k : Int) (c e : Int) : Prop :=
  (wrong14 n m es l bf k ≠ 0 ∧ c = 0 ∧ e = wrong14 n m es l bf k) ∨
    (wrong14 n m es l bf k = 0 ∧ ((e = 0 ∧ ∃ f p, PlanP l m (frE es) (toE es) (cpE es) bf f ∧ PotP m (frE es) (toE es) (cpE es) (ckE es) f p ∧ c = totC m (ckE es) f) ∨ (e = 5 ∧ c = 0 ∧ ∀ g, ¬ PlanP l m (frE es) (toE es) (cpE es) bf g)))
theorem SolC.out {h h' : H} {n : Int} {m : Nat} {es : Nat → Ed} {l : Nat} {bf : Nat → Int} {k : Int} {r : Res} (S : SolC h n m es l bf k r h') :
    ∃ pl c sv e, r = .ret (.tuple ⟨[.agg ⟨pl⟩, .int .i64 c, sv, .int .i64 e]⟩) ∧ pl.length = 3 ∧ (∀ v ∈ pl, v.oneCell' = true) ∧ (∃ a l c, sv = .slice a l c) ∧ Ext h h' ∧ OutC n m es l bf k c e := by
  rcases S with ⟨x, ⟨hw, rfl⟩ | ⟨hw, hnl, gd, ⟨own, vs, von, vp, f, p, rfl, bs, P⟩ | ⟨bs, sd, rfl, _, _, hl⟩⟩⟩
  · exact ⟨_, _, _, _, rfl, rfl, plZ_one, ⟨_, _, _, rfl⟩, x, .inl ⟨hw, rfl, rfl⟩⟩
  · exact ⟨_, _, _, _, rfl, rfl, P.one, ⟨_, _, _, rfl⟩, x, .inr ⟨hw, .inl ⟨rfl, f, p, P.pl, P.pt, rfl⟩⟩⟩
  · exact ⟨_, _, _, _, rfl, rfl, plZ_one, ⟨_, _, _, rfl⟩, x, .inr ⟨hw, .inr ⟨rfl, rfl, fun g Pg => Pg.none_ gd hl⟩⟩⟩
section
variable {n : Int} {m l : Nat} {es : Nat → Ed} {bf : Nat → Int} {k c e d f : Int}
theorem OutC.c0 (O : OutC n m es l bf k c e) (h : e ≠ 0) : c = 0 := by
  rcases O with ⟨_, h, _⟩ | ⟨_, ⟨h2, _⟩ | ⟨_, h, _⟩⟩
  · exact h
  · exact absurd h2 h
  · exact h
theorem OutC.ok (O : OutC n m es l bf k c e) (h : e = 0) : wrong14 n m es l bf k = 0 ∧ ∃ f p, PlanP l m (frE es) (toE es) (cpE es) bf f ∧ PotP m (frE es) (toE es) (cpE es) (ckE es) f p ∧ c = totC m (ckE es) f := by
  rcases O with ⟨h1, _, h2⟩ | ⟨h1, ⟨_, h2⟩ | ⟨h2, _⟩⟩
  · rw [h] at h2; exact absurd h2.symm h1
  · exact ⟨h1, h2⟩
  · omega
end
end Go.Proofs.Ytkdnnfpmppmmcaa

namespace Go.Proofs.Ytkdnnfpmppmmcaa
open Go
open Classical
set_option linter.unusedVariables false
set_option linter.unusedSimpArgs false

def abI (x : Int) : Int := if x < -x then -x else x
section
variable {n m : Nat} {fr to : Nat → Nat} {cap b b1 b2 k f f1 f2 p : Nat → Int}
/-- What amounts cost, by potentials. -/
theorem red_id (hn : ∀ i, i < m → fr i < n ∧ to i < n) : totC m k f = sumN m (fun i => (k i + p (fr i) - p (to i)) * f i) - sumN n (fun v => p v * OutF m fr to f v) := by
  rw [← pot_out hn]
  unfold totC
  rw [← sumN_sub]
  refine sumN_congr fun i _ => ?_
  rw [show k i + p (fr i) - p (to i) = k i + (p (fr i) - p (to i)) by omega, Int.add_mul]; omega
/-- Where capacities are larger than all that is supplied, nothing is full that should bear more. -/
theorem adds_red (hn : ∀ i, i < m → fr i < n ∧ to i < n) (hk : ∀ i, i < m → 0 ≤ k i) (hc : ∀ i, i < m → cap i = 1048576) (P : PlanP n m fr to cap b f) (Q : PotP m fr to cap k f p)
    (hN : sumN n (fun v => if b v < 0 then - b v else 0) < 1048576) : ∀ i, i < m → 0 ≤ k i + p (fr i) - p (to i) := by
  intro i hi
  apply Classical.byContradiction
  intro h
  have full : f i = 1048576 := by rw [(Q i hi).2 (by omega), hc i hi]
  let R : Nat → Nat → Prop := fun u w => ∃ j, j < m ∧ fr j = u ∧ to j = w ∧ 0 < f j
  let C : Nat → Prop := Rch R (to i)
  have up : ∀ w, C w → p (to i) ≤ p w := fun w r => r.closed (C := fun w => p (to i) ≤ p w) (Int.le_refl _) fun u w hu ⟨j, hj, e1, e2, h3⟩ => by
    have c1 := (Q j hj).1
    have kj := hk j hj
    rw [e1, e2] at c1
    apply Classical.byContradiction
    intro hw
    have := c1 (by omega)
    omega
  have hu : ¬ C (fr i) := fun hC => by have := up _ hC; have := hk i hi; omega
  have hv : C (to i) := .refl
  have cl : ∀ j, j < m → C (fr j) → ¬ C (to j) → f j = 0 := fun j hj h1 h2 => by
    have := (P.cp j hj).1
    apply Classical.byContradiction
    intro h3
    exact h2 (h1.step ⟨j, hj, rfl, rfl, by omega⟩)
  have e := out_side (f := f) hn C
  have l1 : f i ≤ sumN m (fun j => (if C (to j) then f j else 0) - (if C (fr j) then f j else 0)) := by
    have := sumN_mem (f := fun j => (if C (to j) then f j else 0) - (if C (fr j) then f j else 0)) (k := m) (i := i) (fun j hj => by
      have := (P.cp j hj).1
      by_cases h1 : C (fr j) <;> by_cases h2 : C (to j)
      · simp only [h1, h2, if_true]; omega
      · simp only [h1, h2, if_true, if_false]; have := cl j hj h1 h2; omega
      · simp only [h1, h2, if_true, if_false]; omega
      · simp only [h1, h2, if_false]; omega) hi
    simp only [hu, hv, if_true, if_false] at this
    omega
  have e3 : sumN m (fun j => (if C (to j) then f j else 0) - (if C (fr j) then f j else 0)) = - sumN m (fun j => (if C (fr j) then f j else 0) - (if C (to j) then f j else 0)) := by
    have := sumN_sub (f := fun _ => 0) (g := fun j => (if C (fr j) then f j else 0) - (if C (to j) then f j else 0)) (k := m)
    rw [sumN_zero fun _ _ => rfl] at this
    rw [← Int.zero_sub, ← this]
    exact sumN_congr fun j _ => by omega
  have l2 : sumN n (fun v => - (if C v then OutF m fr to f v else 0)) ≤ sumN n (fun v => if b v < 0 then - b v else 0) := sumN_le fun v hv => by
    rw [P.out v hv]
    by_cases h1 : C v
    · simp only [h1, if_true]; split <;> omega
    · simp only [h1, if_false]; split <;> omega
  have e4 : sumN n (fun v => - (if C v then OutF m fr to f v else 0)) = - sumN n (fun v => if C v then OutF m fr to f v else 0) := by
    have := sumN_sub (f := fun _ => 0) (g := fun v => if C v then OutF m fr to f v else 0) (k := n)
    rw [sumN_zero fun _ _ => rfl] at this
    rw [← Int.zero_sub, ← this]
    exact sumN_congr fun v _ => by omega
  omega
theorem adds_le (hn : ∀ i, i < m → fr i < n ∧ to i < n) (hr : ∀ i, i < m → 0 ≤ k i + p (fr i) - p (to i)) (hb : ∀ v, v < n → b v = b1 v + b2 v) (P : PlanP n m fr to cap b f) (Q : PotP m fr to cap k f p)
    (P1 : PlanP n m fr to cap b1 f1) (P2 : PlanP n m fr to cap b2 f2) : totC m k f ≤ totC m k f1 + totC m k f2 := by
  rw [red_id (p := p) (f := f) hn, red_id (p := p) (f := f1) hn, red_id (p := p) (f := f2) hn]
  have z : sumN m (fun i => (k i + p (fr i) - p (to i)) * f i) = 0 := sumN_zero fun i hi => by
    have h0 := hr i hi
    by_cases h : 0 < k i + p (fr i) - p (to i)
    · rw [(Q i hi).1 h, Int.mul_zero]
    · rw [show k i + p (fr i) - p (to i) = 0 by omega, Int.zero_mul]
  have n1 : 0 ≤ sumN m (fun i => (k i + p (fr i) - p (to i)) * f1 i) := sumN_nonneg fun i hi => Int.mul_nonneg (hr i hi) (P1.cp i hi).1
  have n2 : 0 ≤ sumN m (fun i => (k i + p (fr i) - p (to i)) * f2 i) := sumN_nonneg fun i hi => Int.mul_nonneg (hr i hi) (P2.cp i hi).1
  have e : sumN n (fun v => p v * OutF m fr to f v) = sumN n (fun v => p v * OutF m fr to f1 v) + sumN n (fun v => p v * OutF m fr to f2 v) := by
    rw [← sumN_add]
    refine sumN_congr fun v hv => ?_
    rw [P.out v hv, P1.out v hv, P2.out v hv, hb v hv, Int.mul_add]
  rw [z, e]
  omega
theorem tot_nn (hk : ∀ i, i < m → 0 ≤ k i) (P : PlanP n m fr to cap b f) : 0 ≤ totC m k f := sumN_nonneg fun i hi => Int.mul_nonneg (hk i hi) (P.cp i hi).1
theorem sum_pos {b : Nat → Int} (h0 : sumN n b = 0) (hb : ∀ v, v < n → -1024 ≤ b v ∧ b v ≤ 1024) (hn : n ≤ 1024) (C : Nat → Prop) : sumN n (fun v => if C v then b v else 0) ≤ 524288 := by
  have e : sumN n (fun v => if C v then b v else 0) + sumN n (fun v => if C v then b v else 0) = sumN n (fun v => if C v then b v else - b v) := by
    have : sumN n (fun v => if C v then b v else - b v) = sumN n (fun v => (if C v then b v else 0) + ((if C v then b v else 0) - b v)) := sumN_congr fun v _ => by split <;> omega
    rw [this, sumN_add, sumN_sub, h0]; omega
  have l : sumN n (fun v => if C v then b v else - b v) ≤ n * 1024 := sumN_bd fun v hv => by have := hb v hv; split <;> omega
  omega
theorem adds_can (hn : ∀ i, i < m → fr i < n ∧ to i < n) (hc : ∀ i, i < m → cap i = 1048576) (hn1 : n ≤ 1024) (hb : ∀ v, v < n → b v = b1 v + b2 v) (z1 : sumN n b1 = 0) (z2 : sumN n b2 = 0) (a1 : ∀ v, v < n → -1024 ≤ b1 v ∧ b1 v ≤ 1024) (a2 : ∀ v, v < n → -1024 ≤ b2 v ∧ b2 v ≤ 1024)
    (P1 : PlanP n m fr to cap b1 f1) (P2 : PlanP n m fr to cap b2 f2) (C : Nat → Prop) : sumN n (fun v => if C v then b v else 0) ≤ cutC m fr to cap C := by
  have s1 := P1.side hn C
  have s2 := P2.side hn C
  have t1 := sum_pos z1 a1 hn1 C
  have t2 := sum_pos z2 a2 hn1 C
  have e : sumN n (fun v => if C v then b v else 0) = sumN n (fun v => if C v then b1 v else 0) + sumN n (fun v => if C v then b2 v else 0) := by
    rw [← sumN_add]
    refine sumN_congr fun v hv => ?_
    rw [hb v hv]; split <;> omega
  rw [e]
  by_cases h : ∃ i, i < m ∧ C (fr i) ∧ ¬ C (to i)
  · obtain ⟨i, hi, h1, h2⟩ := h
    have := sumN_mem (f := fun i => if C (fr i) ∧ ¬ C (to i) then cap i else 0) (k := m) (i := i) (fun j hj => by
      show 0 ≤ if C (fr j) ∧ ¬ C (to j) then cap j else 0
      split
      · rw [hc j hj]; omega
      · omega) hi
    simp only [h1, h2, not_false_eq_true, and_self, if_true] at this
    rw [hc i hi] at this
    unfold cutC
    omega
  · have : cutC m fr to cap C = 0 := sumN_zero fun i hi => if_neg fun h3 => h ⟨i, hi, h3⟩
    omega
theorem neg_half {b : Nat → Int} (h0 : sumN n b = 0) : sumN n (fun v => if b v < 0 then - b v else 0) + sumN n (fun v => if b v < 0 then - b v else 0) = sumN n (fun v => abI (b v)) := by
  have : sumN n (fun v => abI (b v)) = sumN n (fun v => (if b v < 0 then - b v else 0) + ((if b v < 0 then - b v else 0) + b v)) := sumN_congr fun v _ => by
    unfold abI; split <;> split <;> omega
  rw [this, sumN_add, sumN_add, h0]; omega
end
/-- All capacities large, no cost below nothing. -/
def adE (es : Nat → Ed) (i : Nat) : Ed := ⟨(es i).f, (es i).t, 1048576, if (es i).k < 0 then 0 else (es i).k⟩
theorem adE_k {m : Nat} {es : Nat → Ed} : ∀ i, i < m → 0 ≤ ckE (adE es) i := fun i _ => by
  show 0 ≤ if (es i).k < 0 then 0 else (es i).k
  split <;> omega

end Go.Proofs.Ytkdnnfpmppmmcaa

namespace Go.Proofs.Ytkdnnfpmppmmcaa
open Go
set_option linter.unusedVariables false
set_option linter.unusedSimpArgs false

section
variable {h : H} {w : List Value} {n : Int} {m l1 l2 : Nat} {es : Nat → Ed} {v1 v2 : Value} {b1 b2 : Nat → Int}
theorem CostAdds_T (G : GrA h w n m es) (hm : m ≤ 4398046511104) (Z1 : RS h v1 (ints l1 b1)) (Z2 : RS h v2 (ints l2 b2)) (hl : l1 ≤ 17592186044416) (k : Int) :
    T Try.prog F.compasslaw14_CostAdds [.agg ⟨w⟩, .agg ⟨[v1, v2, .int .i64 k]⟩] h fun r h' => r = .ret (.bool true) ∧ Ext h h' := by
  refine E_compasslaw14_CostAdds ?_
  unfold B_compasslaw14_CostAdds
  refine new_bl ?_
  intro c1 q1 hb1 x1 B1_
  refine new_bl ?_
  intro c3 q3 hb3 x3 B3
  refine awake14_R.mono ?_
  rintro _ q4 ⟨rfl, x4⟩
  refine rt_ret ⟨_, rfl, ifP_of (fun h => by simp at h) (fun _ => ?_)⟩
  have B1_ := (B1_.ext x3).ext x4
  have B3 := B3.ext x4
  have x := (x1.trans' x3).trans' x4
  clear x1 x3 x4
  refine B1_.ldN G.one.1 ((Copy_R (G.ext x) hm).mono ?_)
  rintro _ q5 ⟨ev, ow, rfl, bs, k1⟩
  refine rt_ret ⟨_, rfl, rfl, new_bl_st rfl rfl (by
    intro z hz
    simp only [List.mem_cons, List.not_mem_nil, or_false] at hz
    rcases hz with rfl | rfl
    · rfl
    · exact slc_one k1.isS) ?_⟩
  intro b12 q6 hb12 x12 B12
  have k4 : B1 (own1 ow b12 4) q6 4 b12 [.int .i64 n, ev] := B1.new B12
  have bs := bs.nw (j := 4) x12 hb12
  have k1 := k1.nw (j := 4) x12 hb12
  generalize own1 ow b12 4 = ow at *
  refine ⟨_, k4.ld rfl, k1.gs.len fun _ _ => ?_⟩
  let I2 : (Int × Unit) → H → Nat → Prop := fun p q z => ∃ (i : Nat), p.1 = i ∧ i ≤ m ∧ z = m - i ∧ Bs q4 ow q ∧ B1 ow q 4 b12 [.int .i64 n, ev] ∧ S4 ow q 1 ev m (fun a => if a < i then adE es a else es a)
  refine ⟨fun p q => ∃ k, I2 p q k, rk I2, rk_wf I2, ⟨_, 0, rfl, by omega, rfl, bs, k4, k1.congr fun i hi => by rw [if_neg (by omega)]⟩, ?_⟩
  clear bs k4 k1
  intro p q hI
  obtain ⟨i, e1, hi, hz, bs, k4, k1⟩ := mu_spec hI
  generalize hkk : mu I2 ((p, ()), q) = km at *
  change p = (i : Int) at e1
  subst e1
  have hlt : i < m → m - (i + 1) < mu I2 (((i : Int), ()), q) := fun h => by rw [hkk, hz]; exact sub_dec h
  clear hI
  refine ifP_of (fun h1 => ?_) (fun h1 => ?_)
  · have him : i < m := by have := of_decide_eq_true h1; omega
    rw [i64_inc (by omega)]
    refine ⟨_, k4.ld rfl, k1.setC him fun g F1 k1 => ?_⟩
    have bs := bs.fm F1 (by simp <;> omega)
    have k4 := k4.fm F1 (by simp <;> omega)
    refine ⟨_, k4.ld rfl, k1.gs.k him ?_⟩
    have ek : (capE (fun a => if a < i then adE es a else es a) i 1048576 i).k = (es i).k := by
      unfold capE
      rw [if_pos rfl]
      dsimp only
      rw [if_neg (Nat.lt_irrefl _)]
    rw [ek]
    have gc : ∀ z : Int, z = (if (es i).k < 0 then 0 else (es i).k) → ∀ a, a < m → (if a < i + 1 then adE es a else es a) = cstE (capE (fun a => if a < i then adE es a else es a) i 1048576) i z a := fun z hz a ha => by
      unfold cstE capE
      by_cases h : a = i
      · subst h
        rw [if_pos (by omega), if_pos rfl, if_pos rfl, hz]
        dsimp only
        rw [if_neg (Nat.lt_irrefl _)]
        rfl
      · rw [if_neg h, if_neg h]
        dsimp only
        by_cases h2 : a < i
        · rw [if_pos h2, if_pos (by omega)]
        · rw [if_neg h2, if_neg (by omega)]
    refine ifP_of (fun h2 => ?_) (fun h2 => ?_)
    · have h2 := of_decide_eq_true h2
      refine ⟨_, k4.ld rfl, k1.setK him fun g2 F2 k1 => ?_⟩
      have bs := bs.fm F2 (by simp <;> omega)
      have k4 := k4.fm F2 (by simp <;> omega)
      exact mu_next (I := I2) (k := m - (i + 1)) ⟨i + 1, rfl, him, rfl, bs, k4, k1.congr (gc 0 (by rw [if_pos h2]))⟩ (hlt him)
    · have h2 := of_decide_eq_false h2
      refine mu_next (I := I2) (k := m - (i + 1)) ⟨i + 1, rfl, him, rfl, bs, k4, k1.congr fun a ha => ?_⟩ (hlt him)
      rw [gc (es i).k (by rw [if_neg h2]) a ha]
      unfold cstE capE
      by_cases h : a = i
      · subst h
        rw [if_pos rfl, if_pos rfl]
        dsimp only
        rw [if_neg (Nat.lt_irrefl _)]
      · rw [if_neg h]
  have him : i = m := by have := of_decide_eq_false h1; omega
  subst him
  have k1 : S4 ow q 1 ev i (adE es) := k1.congr fun a ha => by rw [if_pos ha]
  clear hlt hkk hz h1 hi
  have B3 := B3.ext bs.ext
  have Z1 := Z1.ext (x.trans' bs.ext)
  have Z2 := Z2.ext (x.trans' bs.ext)
  have x := x.trans' bs.ext
  have Gw1 : GrA q [.int .i64 n, ev] n i (adE es) := k1.gs.gr n
  have B12 : Bl q b12 [.int .i64 n, ev] := k4.bl
  clear k1 k4 bs
  -- both
  refine ⟨_, B3.ld rfl, Z1.len (ints_length _ _) fun _ _ => ?_⟩
  let I : (Int × Value × Int × Unit) → H → Nat → Prop := fun p q' z => ∃ (j : Nat) (ow : Own), p.2.2.1 = j ∧ j ≤ l1 ∧ z = l1 - j ∧ Bs q ow q' ∧ S1 ow q' 1 p.2.1 (ints j fun v => b1 v + b2 v) ∧ p.1 = sumN j (fun v => abI (b1 v) + abI (b2 v)) ∧ (j ≤ l2) ∧ ∀ v, v < j → (-1024 ≤ b1 v ∧ b1 v ≤ 1024) ∧ (-1024 ≤ b2 v ∧ b2 v ≤ 1024)
  refine ⟨fun p q => ∃ k, I p q k, rk I, rk_wf I, ⟨_, 0, fun _ => 0, rfl, by omega, rfl, Bs.start, S1.nil, rfl, by omega, fun v hv => by omega⟩, ?_⟩
  intro sm bo p q2 hI
  obtain ⟨j, ow2, e1, hj, hz, bs, k1, hsm, hj2, hb⟩ := mu_spec hI
  generalize hkk : mu I ((sm, bo, p, ()), q2) = km at *
  change p = (j : Int) at e1
  change S1 ow2 q2 1 bo _ at k1
  change sm = sumN j (fun v => abI (b1 v) + abI (b2 v)) at hsm
  subst e1
  have hlt : j < l1 → l1 - (j + 1) < mu I ((sm, bo, (j : Int), ()), q2) := fun h => by rw [hkk, hz]; exact sub_dec h
  clear hI
  have xq := x.trans' bs.ext
  have B3q := B3.ext bs.ext
  have Z1q := Z1.ext bs.ext
  have Z2q := Z2.ext bs.ext
  have tr : (.ret (.bool true) : Res) = .ret (.bool true) ∧ Ext h q2 := ⟨rfl, xq⟩
  refine ifP_of (fun h1 => ?_) (fun h1 => ?_)
  · have hjl : j < l1 := by have := of_decide_eq_true h1; omega
    refine Z1q.rdI hjl ⟨fun _ q' => q' = q2 ∧ j < l2 ∧ (-1024 ≤ b1 j ∧ b1 j ≤ 1024) ∧ (-1024 ≤ b2 j ∧ b2 j ≤ 1024), ?_, ?_⟩
    · refine ⟨_, B3q.ld rfl, Z2q.len (ints_length _ _) fun _ _ => ifP_of (fun _ => tr) (fun h2 => ifP_of (fun _ => tr) (fun h3 => ifP_of (fun _ => tr) (fun h4 => ?_)))⟩
      have h2 := of_decide_eq_false h2
      have h3 := of_decide_eq_false h3
      have h4 := of_decide_eq_false h4
      refine ⟨_, B3q.ld rfl, Z2q.rdI (by omega) (ifP_of (fun _ => tr) (fun h5 => ⟨_, B3q.ld rfl, Z2q.rdI (by omega) (ifP_of (fun _ => tr) (fun h6 => ?_))⟩))⟩
      have h5 := of_decide_eq_false h5
      have h6 := of_decide_eq_false h6
      exact ⟨rfl, by omega, by omega, by omega⟩
    intro q5 hq
    obtain ⟨hq, hj3, a1, a2⟩ := hq
    subst hq
    have e1 : IntKind.i64.wrap (b1 j + b2 j) = b1 j + b2 j := w64_in (by omega) (by omega)
    refine ⟨_, B3q.ld rfl, Z2q.rdI hj3 ?_⟩
    rw [e1, i64_inc (by omega)]
    refine k1.push1 (by simp [Value.oneCell']) (by omega) (by rw [ints_length]; omega) ?_
    intro bx hm2 p' ow' q' hbx xm F2 k1
    have bs := bs.fm F2 (by simp <;> omega)
    have B3q := B3.ext bs.ext
    have Z2q := Z2.ext bs.ext
    refine ⟨_, B3q.ld rfl, Z2q.rdI hj3 ⟨_, B3q.ld rfl, Z2q.rdI hj3 ?_⟩⟩
    have w1 : IntKind.i64.wrap (0 - b1 j) = - b1 j := by rw [show (0 : Int) - b1 j = - b1 j by omega]; exact w64_in (by omega) (by omega)
    have w2 : IntKind.i64.wrap (0 - b2 j) = - b2 j := by rw [show (0 : Int) - b2 j = - b2 j by omega]; exact w64_in (by omega) (by omega)
    rw [w1, w2]
    have ab1 : (if b1 j < - b1 j then - b1 j else b1 j) = abI (b1 j) := rfl
    have ab2 : (if b2 j < - b2 j then - b2 j else b2 j) = abI (b2 j) := rfl
    rw [ab1, ab2]
    have c1 : 0 ≤ abI (b1 j) ∧ abI (b1 j) ≤ 1024 := by unfold abI; split <;> omega
    have c2 : 0 ≤ abI (b2 j) ∧ abI (b2 j) ≤ 1024 := by unfold abI; split <;> omega
    have sb : 0 ≤ sm ∧ sm ≤ j * 2048 := by
      rw [hsm]
      refine ⟨sumN_nonneg fun v hv => ?_, sumN_bd fun v hv => ?_⟩
      · have := hb v hv; unfold abI; split <;> split <;> omega
      · have := hb v hv; unfold abI; split <;> split <;> omega
    have w3 : IntKind.i64.wrap (abI (b1 j) + abI (b2 j)) = abI (b1 j) + abI (b2 j) := w64_in (by omega) (by omega)
    have w4 : IntKind.i64.wrap (sm + (abI (b1 j) + abI (b2 j))) = sm + (abI (b1 j) + abI (b2 j)) := w64_in (by omega) (by omega)
    rw [w3, w4]
    refine mu_next (I := I) (k := l1 - (j + 1)) ⟨j + 1, ow', rfl, hjl, rfl, bs, ?_, ?_, hj3, fun v hv => ?_⟩ (hlt hjl)
    · show S1 ow' q' 1 p' (ints (j + 1) fun v => b1 v + b2 v)
      rw [ints_push]; exact k1
    · show sm + _ = sumN (j + 1) _
      rw [hsm]; rfl
    · by_cases e : v = j
      · subst e; exact ⟨a1, a2⟩
      · exact hb v (by omega)
  have hjl : j = l1 := by have := of_decide_eq_false h1; omega
  subst hjl
  clear hlt hkk hz h1 hj
  have B12 := B12.ext bs.ext
  have Gw1 := Gw1.ext bs.ext
  have Zb := RS.of_S1 k1
  refine B12.ldN rfl ⟨_, B3q.ld rfl, _, B3q.ld rfl, (MSolve_T Gw1 Z1q k).mono ?_⟩
  intro r1 q7 hS1
  obtain ⟨pl1, a, sv1, e, rfl, hpl1, hone1, _, x7, O1⟩ := hS1.out
  refine rt_ret ⟨_, hpl1, _, _, _, rfl, new_bl_st hpl1 rfl hone1 ?_⟩
  intro b78 q8 hb78 x78 _
  have xa := x7.trans' x78
  have B3a := B3q.ext xa
  refine (B12.ext xa).ldN rfl ⟨_, B3a.ld rfl, _, B3a.ld rfl, (MSolve_T (Gw1.ext xa) (Z2q.ext xa) k).mono ?_⟩
  intro r2 q9 hS2
  obtain ⟨pl2, b, sv2, f, rfl, hpl2, hone2, _, x9, O2⟩ := hS2.out
  refine rt_ret ⟨_, hpl2, _, _, _, rfl, new_bl_st hpl2 rfl hone2 ?_⟩
  intro b90 q10 hb90 x90 _
  have xb := xa.trans' (x9.trans' x90)
  refine (B12.ext xb).ldN rfl ⟨_, (B3q.ext xb).ld rfl, (MSolve_T (Gw1.ext xb) (Zb.ext xb) k).mono ?_⟩
  intro r3 q11 hS3
  obtain ⟨pl3, c, sv3, g, rfl, hpl3, hone3, _, x11, O3⟩ := hS3.out
  refine rt_ret ⟨_, hpl3, _, _, _, rfl, new_bl_st hpl3 rfl hone3 ?_⟩
  intro b101 q12 hb101 x101 _
  have xz := xq.trans' (xb.trans' (x11.trans' x101))
  -- what is known where the first two are met
  have both : e = 0 → f = 0 → g = 0 ∧ 0 ≤ c ∧ (sm ≤ 1048576 → c ≤ a + b) ∧ 0 ≤ a ∧ a ≤ 4503599627370496 ∧ 0 ≤ b ∧ b ≤ 4503599627370496 := fun he hf => by
    obtain ⟨hw1, f1, p1, P1, Q1, ha⟩ := O1.ok he
    obtain ⟨hw2, f2, p2, P2, Q2, hbb⟩ := O2.ok hf
    obtain ⟨hn1, gd, hs1, hk1, hk2⟩ := wrong14_0 hw1
    obtain ⟨hn2, _, hs2, _, _⟩ := wrong14_0 hw2
    have hll : l2 = j := by omega
    subst hll
    subst hn1
    have cp0 : ∀ a, a < i → cpE (adE es) a = 1048576 := fun a _ => rfl
    have eqb : ∀ v, v < l2 → (fun v => b1 v + b2 v) v = b1 v + b2 v := fun v _ => rfl
    have A1 : ∀ v, v < l2 → -1024 ≤ b1 v ∧ b1 v ≤ 1024 := fun v hv => (hb v hv).1
    have A2 : ∀ v, v < l2 → -1024 ≤ b2 v ∧ b2 v ≤ 1024 := fun v hv => (hb v hv).2
    have hs3 : supOK l2 l2 (fun v => b1 v + b2 v) := ⟨rfl, fun v hv => by have := hb v hv; show -1048576 ≤ b1 v + b2 v ∧ b1 v + b2 v ≤ 1048576; omega, by rw [sumN_add, hs1.2.2, hs2.2.2]; rfl⟩
    have hw3 : wrong14 l2 i (adE es) l2 (fun v => b1 v + b2 v) k = 0 := by unfold wrong14; rw [if_pos (Gd.iff.2 gd), if_pos hs3, if_pos ⟨hk1, hk2⟩]
    have kb : ∀ f3, PlanP l2 i (frE (adE es)) (toE (adE es)) (cpE (adE es)) b1 f3 ∨ PlanP l2 i (frE (adE es)) (toE (adE es)) (cpE (adE es)) b2 f3 → 0 ≤ totC i (ckE (adE es)) f3 ∧ totC i (ckE (adE es)) f3 ≤ 4503599627370496 := fun f3 hP => by
      have cp : ∀ a, a < i → 0 ≤ f3 a ∧ f3 a ≤ 1048576 := by
        rcases hP with P | P
        · exact P.cp
        · exact P.cp
      refine ⟨by rcases hP with P | P <;> exact tot_nn adE_k P, ?_⟩
      have := (totC_bd (m := i) (k := ckE (adE es)) (f := f3) (C := 1048576) (X := 1048576) (by omega) (by omega) gd.k cp).2
      have := gd.m1
      omega
    have ka := kb f1 (.inl P1)
    have kbb := kb f2 (.inr P2)
    rcases O3 with ⟨h, _⟩ | ⟨_, ⟨rfl, f3, p3, P3, Q3, rfl⟩ | ⟨_, _, no⟩⟩
    · exact absurd hw3 h
    · refine ⟨rfl, tot_nn adE_k P3, fun hsum => ?_, by rw [ha]; exact ka.1, by rw [ha]; exact ka.2, by rw [hbb]; exact kbb.1, by rw [hbb]; exact kbb.2⟩
      rw [ha, hbb]
      have hN : sumN l2 (fun v => if (fun v => b1 v + b2 v) v < 0 then - (fun v => b1 v + b2 v) v else 0) < 1048576 := by
        have e2 := neg_half (n := l2) (b := fun v => b1 v + b2 v) hs3.2.2
        have l3 : sumN l2 (fun v => abI ((fun v => b1 v + b2 v) v)) ≤ sm := by
          rw [hsm]
          exact sumN_le fun v hv => by unfold abI; dsimp only; split <;> split <;> split <;> omega
        exact (fun (A B : Int) (h1 : A + A = B) (h2 : B ≤ sm) => (by omega : A < 1048576)) _ _ e2 l3
      exact adds_le gd.ends (adds_red gd.ends adE_k cp0 P3 Q3 hN) eqb P3 Q3 P1 P2
    · exfalso
      rcases hS3 with ⟨_, ⟨h, _⟩ | ⟨_, _, _, ⟨own, vs, von, vp, f3, p3, _, _, P3⟩ | ⟨bs3, sd3, _, _, _, hl3⟩⟩⟩
      · exact absurd hw3 h
      · exact no _ P3.pl
      · have := adds_can gd.ends cp0 gd.n1 eqb hs1.2.2 hs2.2.2 A1 A2 P1 P2 (fun v => sd3 v = true)
        have e2 : (sumN l2 fun v => if sd3 v = true then (fun v => b1 v + b2 v) v else 0) = sumN l2 fun v => @ite Int (sd3 v = true) (Classical.propDecidable _) ((fun v => b1 v + b2 v) v) 0 := sumN_congr fun v _ => by by_cases h : sd3 v = true <;> simp [h]
        rw [e2] at hl3
        exact absurd hl3 (Int.not_lt.2 this)
  have tr2 : (.ret (.bool true) : Res) = .ret (.bool true) ∧ Ext h q12 := ⟨rfl, xz⟩
  have last : ifP (!decide (e = 0)) ((.ret (.bool true) : Res) = .ret (.bool true) ∧ Ext h q12) (ifP (!decide (f = 0)) ((.ret (.bool true) : Res) = .ret (.bool true) ∧ Ext h q12) ((.ret (.bool (decide (g = 0))) : Res) = .ret (.bool true) ∧ Ext h q12)) :=
    ifP_of (fun _ => tr2) (fun h1 => ifP_of (fun _ => tr2) (fun h2 => ⟨by rw [(both (by simpa using h1) (by simpa using h2)).1]; simp, xz⟩))
  refine ⟨fun _ q => q = q12 ∧ e = 0 ∧ f = 0 ∧ sm ≤ 1048576, ifP_of (fun _ => last) (fun h1 => ifP_of (fun _ => last) (fun h2 => ifP_of (fun _ => last) (fun h3 => ⟨rfl, by simpa using h1, by simpa using h2, by have := of_decide_eq_false h3; omega⟩))), ?_⟩
  intro q13 hq
  obtain ⟨hq, he, hf, hsum⟩ := hq
  subst hq
  obtain ⟨rfl, c0, cab, a0, a1, b0, b1_⟩ := both he hf
  have ew : IntKind.i64.wrap (a + b) = a + b := w64_in (by omega) (by omega)
  rw [ew]
  have := cab hsum
  exact ifP_of (fun _ => ifP_of (fun _ => ⟨by simp; exact c0, xz⟩) (fun h => absurd this (of_decide_eq_false h))) (fun h => by simp at h)
end

end Go.Proofs.Ytkdnnfpmppmmcaa

