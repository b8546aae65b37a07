import Derived.Test.YtkdnnfpmppmmcaaProg
import Derived.Test.YtkdnnfpmppmmcaaCC4
namespace Go.Proofs.Ytkdnnfpmppmmcaa
open Go Go.ChangeShapes Go.WideShapes Go.ChangeAt Go.RowKit
set_option linter.unusedVariables false

theorem own : ownKnob Try.prog.godebug = none := by kernel_rfl
theorem laidOut : laidOutB Try.prog = true := by kernel_rfl

end Go.Proofs.Ytkdnnfpmppmmcaa

namespace Go.Proofs.Ytkdnnfpmppmmcaa
open Go
set_option linter.unusedVariables false
set_option linter.unusedSimpArgs false

/-- Another cost at a place. -/
def cstE (es : Nat → Ed) (j : Nat) (x : Int) (i : Nat) : Ed := if i = j then ⟨(es i).f, (es i).t, (es i).c, x⟩ else es i
theorem S4.setK {own : Own} {h : H} {i m : Nat} {v : Value} {es : Nat → Ed} {j : Nat} {x : Int} {K : H → Prop} (s : S4 own h i v m es) (hj : j < m)
    (k : ∀ g, Fm [i] own h own g → S4 own g i v m (cstE es j x) → K g) : ixS v (j : Int) 4 fun a => stC h (a.add 3) (.int .i64 x) K := by
  rcases s with ⟨rfl, _⟩ | ⟨b, c, e, zs, hb, rfl, h2, h3⟩
  · omega
  · refine nx hj ?_
    rw [bk_add, bk_add2]
    have hlt : j * 4 + 3 < m * 4 := at_lt hj (by omega)
    have e2 : hset h ⟨b, j * 4 + 3, none⟩ [.int .i64 x] b = some (.cells ⟨recs m 4 (edF (cstE es j x)) ++ zs⟩ e (0, 0)) := by
      unfold hset
      rw [if_pos rfl, h2]
      simp only [Option.map_some, setR]
      rw [List.setIfInBounds_toArray, List.set_append_left _ _ (by rw [recs_length]; exact hlt), recs_set hj (by omega)]
      congr 4
      have : ∀ l, l < m → ∀ q, q < 4 → upd2 (edF es) j 3 x l q = edF (cstE es j x) l q := fun l hl q hq => by
        unfold upd2 edF cstE
        by_cases e1 : l = j
        · subst e1
          rw [if_pos rfl]
          match q with
          | 0 => rw [if_neg (fun h => by cases h.2)]; rfl
          | 1 => rw [if_neg (fun h => by cases h.2)]; rfl
          | 2 => rw [if_neg (fun h => by cases h.2)]; rfl
          | 3 => rw [if_pos ⟨rfl, rfl⟩]; rfl
          | q + 4 => omega
        · rw [if_neg (fun h => e1 h.1), if_neg e1]
      unfold recs
      refine ints_ext fun i hi => ?_
      exact this _ (Nat.div_lt_of_lt_mul (by rw [Nat.mul_comm]; exact hi)) _ (Nat.mod_lt _ (by omega))
    refine ⟨⟨_, _, h2, rfl, ?_⟩, k _ (Fm.kp (b := b) ?_ hb ⟨_, e2⟩) (.inr ⟨b, c, e, zs, hb, rfl, e2, h3⟩)⟩
    · simp only [List.size_toArray, List.length_append, recs_length]; omega
    · intro k o hk hh
      unfold hset
      rw [if_neg hk]; exact hh
end Go.Proofs.Ytkdnnfpmppmmcaa

namespace Go.Proofs.Ytkdnnfpmppmmcaa
open Go
set_option linter.unusedVariables false
set_option linter.unusedSimpArgs false

/-- One number is appended, however long the slice is. -/
theorem S1.push1 {own : Own} {h : H} {i ex : Nat} {p z x : Value} {vs : List Value} {K : Nat → H → Value → H → Prop} {e bytes : Nat} (s : S1 own h i p vs)
    (one : x.oneCell' = true) (hb : bytes ≤ 8) (hl : vs.length ≤ 17592186044416)
    (k : ∀ bx hm p' own' h', h bx = none → Ext h hm → Fm [i] own h own' h' → S1 own' h' i p' (vs ++ [x]) → K bx hm p' h') :
    newP h (.cells ⟨[x]⟩ ex (0, 0)) fun bx hm => apP p (.slice (some (bk bx)) 1 1) hm 1 e bytes [z] (K bx hm) := by
  refine new_put ?_
  intro bx hm hbx xm hx
  have hsrc : srcP hm (some (bk bx)) (1 * 1) [x] := by
    refine ⟨rfl, fun j v hj => ?_⟩
    rw [bk_add, hcell_at hx, List.getElem?_toArray]
    exact hj
  have hzl : ∀ m, (zrep [z] m).length = m := by intro m; simp [zrep]
  rcases s with ⟨rfl, rfl⟩ | ⟨b, hob, c, eb, zs, rfl, h2, h3⟩
  · refine ⟨[x], hsrc, fun hle => by omega, fun hlt => ⟨?_, [], ⟨rfl, rfl⟩, fun cap hcap => ?_⟩⟩
    · have := nextcap_le hlt
      calc _ ≤ (2 * (0 + 1) + 192) * bytes := Nat.mul_le_mul_right _ this
        _ ≤ (2 * (0 + 1) + 192) * 8 := Nat.mul_le_mul_left _ hb
        _ ≤ _ := by omega
    · refine new_put ?_
      intro b g hbn x1 e1
      rw [Nat.zero_add] at e1 hcap ⊢
      refine k bx hm _ (own1 own b i) g hbx xm (Fm.new (xm.trans' x1) (xm.new hbn)) (.inr ⟨b, own1_at, cap, e, zrep [z] (cap - 1), rfl, by rw [e1], ?_⟩)
      rw [hzl]; simp; omega
  · have h2m := xm _ _ h2
    refine ⟨[x], hsrc, fun hle => ⟨fun _ => ?_, by simpa using one, ?_⟩, fun hlt => ⟨?_, vs, ⟨by rw [Nat.mul_one], ?_⟩, fun cap hcap => ?_⟩⟩
    · rw [bk_add]
      refine ⟨_, _, h2m, rfl, ?_⟩
      simp only [List.size_toArray, List.length_append, List.length_singleton]
      omega
    · rw [bk_add]
      have e2 : hset hm ⟨b, vs.length * 1, none⟩ [x] b = some (.cells ⟨vs ++ [x] ++ zs.drop 1⟩ eb (0, 0)) := by
        unfold hset
        rw [if_pos rfl, h2m]
        simp only [Option.map_some, Nat.mul_one]
        rw [setR_list _ _ _ (by simp; omega)]
        simp [List.take_append, List.drop_append]
      refine k bx hm _ own _ hbx xm ((Fm.of_ext xm).trans (Fm.kp (b := b) ?_ hob ⟨_, e2⟩)) (.inr ⟨b, hob, c, eb, zs.drop 1, by simp, e2, by simp; omega⟩)
      intro j o hj hh
      unfold hset
      rw [if_neg hj]; exact hh
    · have hcm : c = vs.length := by omega
      subst hcm
      calc _ ≤ (vs.length + vs.length / 4 + 600) * bytes := Nat.mul_le_mul_right _ nextcap1_le
        _ ≤ (vs.length + vs.length / 4 + 600) * 8 := Nat.mul_le_mul_left _ hb
        _ ≤ _ := by omega
    · intro j v hj
      rw [bk_add, hcell_at h2m, List.getElem?_toArray]
      have := (List.getElem?_eq_some_iff.1 hj).1
      rw [List.getElem?_append_left this]
      exact hj
    · refine new_put ?_
      intro b' g hbn x1 e1
      refine k bx hm _ (own1 own b' i) g hbx xm (Fm.new (xm.trans' x1) (xm.new hbn)) (.inr ⟨b', own1_at, cap, e, zrep [z] (cap - (vs.length + 1)), by simp, by rw [e1], ?_⟩)
      rw [hzl]; simp; omega
theorem ints_push {j : Nat} {f : Nat → Int} : ints (j + 1) f = ints j f ++ [.int .i64 (f j)] := by
  unfold ints; rw [List.range_succ, List.map_append]; rfl

section
variable {n m l : Nat} {es es' : Nat → Ed} {bf f g p : Nat → Int}
theorem badFrom_same {n : Int} (h : ∀ i, badE n (es' i) = badE n (es i)) : ∀ {k i : Nat}, badFrom n es' i k = badFrom n es i k
  | 0, i => rfl
  | k + 1, i => by
    show (if badE n (es' i) ≠ 0 then (badE n (es' i), (i : Int)) else badFrom n es' (i + 1) k) = if badE n (es i) ≠ 0 then (badE n (es i), (i : Int)) else badFrom n es (i + 1) k
    rw [h i, badFrom_same h]
theorem faultG_same {n : Int} (h : ∀ i, badE n (es' i) = badE n (es i)) : faultG n m es' = faultG n m es := by
  unfold faultG
  rw [badFrom_same h]
theorem badE_rev {n : Int} (i : Nat) : badE n (revE es i) = badE n (es i) := by
  unfold badE revE
  dsimp only
  by_cases h : (es i).f < 0 ∨ (es i).t < 0 ∨ n ≤ (es i).f ∨ n ≤ (es i).t
  · rw [if_pos h, if_pos (by omega)]
  · rw [if_neg h, if_neg (by omega)]
theorem supOK_neg {n : Int} : supOK n l (fun v => - bf v) ↔ supOK n l bf := by
  have e : sumN l (fun v => - bf v) = - sumN l bf := by
    have := sumN_sub (f := fun _ => 0) (g := bf) (k := l)
    rw [sumN_zero fun _ _ => rfl] at this
    rw [show (fun v => - bf v) = fun v => 0 - bf v by funext v; omega, this]; omega
  unfold supOK
  rw [e]
  constructor
  · rintro ⟨a, b, c⟩
    exact ⟨a, fun v hv => by have := b v hv; dsimp only at this; omega, by omega⟩
  · rintro ⟨a, b, c⟩
    exact ⟨a, fun v hv => by have := b v hv; show -1048576 ≤ - bf v ∧ - bf v ≤ 1048576; omega, by omega⟩
theorem wrong14_rev {n : Int} (k : Int) : wrong14 n m (revE es) l (fun v => - bf v) k = wrong14 n m es l bf k := by
  unfold wrong14
  rw [faultG_same badE_rev]
  by_cases h : supOK n l bf
  · rw [if_pos h, if_pos (supOK_neg.2 h)]
  · rw [if_neg h, if_neg (fun h2 => h (supOK_neg.1 h2))]
theorem out_rev14 (v : Nat) : OutF m (frE (revE es)) (toE (revE es)) f v = - OutF m (frE es) (toE es) f v := by
  have := sumN_sub (f := fun _ => 0) (g := fun i => (if frE es i = v then f i else 0) - (if toE es i = v then f i else 0)) (k := m)
  rw [sumN_zero fun _ _ => rfl] at this
  unfold OutF
  rw [show (fun i => (if frE (revE es) i = v then f i else 0) - (if toE (revE es) i = v then f i else 0)) = fun i => 0 - ((if frE es i = v then f i else 0) - (if toE es i = v then f i else 0)) by
    funext i
    show (if toE es i = v then f i else 0) - (if frE es i = v then f i else 0) = _
    omega, this]
  omega
theorem PlanP.rev14 (P : PlanP l m (frE es) (toE es) (cpE es) bf f) : PlanP l m (frE (revE es)) (toE (revE es)) (cpE (revE es)) (fun v => - bf v) f :=
  ⟨P.cp, fun v hv => by rw [out_rev14, P.out v hv]⟩
theorem PlanP.rev14' (P : PlanP l m (frE (revE es)) (toE (revE es)) (cpE (revE es)) (fun v => - bf v) f) : PlanP l m (frE es) (toE es) (cpE es) bf f :=
  ⟨P.cp, fun v hv => by have := P.out v hv; rw [out_rev14] at this; omega⟩
/-- The costs moved at a node. -/
def mvE (es : Nat → Ed) (nd by_ : Int) (i : Nat) : Ed := ⟨(es i).f, (es i).t, (es i).c, (es i).k + (if (es i).f = nd then by_ else 0) - (if (es i).t = nd then by_ else 0)⟩
theorem badFrom_31 {n : Int} (h : ∀ i, i < m → badE n (es i) = 0 ∨ badE n (es i) = 31) : ∀ {k i : Nat}, i + k ≤ m → (badFrom n es i k).1 = 0 ∨ (badFrom n es i k).1 = 31
  | 0, i, _ => .inl rfl
  | k + 1, i, hk => by
    show (if badE n (es i) ≠ 0 then (badE n (es i), (i : Int)) else badFrom n es (i + 1) k).1 = 0 ∨ (if badE n (es i) ≠ 0 then (badE n (es i), (i : Int)) else badFrom n es (i + 1) k).1 = 31
    split
    · exact h i (by omega)
    · exact badFrom_31 h (by omega)
theorem mv_fault (gd : Gd n m es) (nd by_ : Int) : (faultG n m (mvE es nd by_)).1 = 0 ∨ (faultG n m (mvE es nd by_)).1 = 31 := by
  unfold faultG
  rw [if_neg (by have := gd.n1; have := gd.m1; omega)]
  refine badFrom_31 (m := m) (fun i hi => ?_) (by omega)
  obtain ⟨u, hu, hu2⟩ := gd.f i hi
  obtain ⟨v, hv, hv2⟩ := gd.t i hi
  have c := gd.c i hi
  unfold badE mvE
  dsimp only
  rw [if_neg (by omega)]
  generalize (es i).k + (if (es i).f = nd then by_ else 0) - (if (es i).t = nd then by_ else 0) = z
  split
  · exact .inr rfl
  · exact .inl rfl
theorem mv_tot (gd : Gd n m es) (nd : Nat) (by_ : Int) : totC m (ckE (mvE es nd by_)) f = totC m (ckE es) f + by_ * OutF m (frE es) (toE es) f nd := by
  unfold totC OutF
  rw [← sumN_mul, ← sumN_add]
  refine sumN_congr fun i hi => ?_
  have e1 := (gd.fr hi).1
  have e2 := (gd.to hi).1
  show ((es i).k + (if (es i).f = (nd : Int) then by_ else 0) - (if (es i).t = (nd : Int) then by_ else 0)) * f i = (es i).k * f i + _
  have c1 : ((es i).f = (nd : Int)) ↔ frE es i = nd := by omega
  have c2 : ((es i).t = (nd : Int)) ↔ toE es i = nd := by omega
  rw [Int.sub_mul, Int.add_mul, Int.mul_sub]
  by_cases h1 : frE es i = nd
  · by_cases h2 : toE es i = nd
    · rw [if_pos (c1.2 h1), if_pos (c2.2 h2), if_pos h1, if_pos h2]; omega
    · rw [if_pos (c1.2 h1), if_neg (fun h => h2 (c2.1 h)), if_pos h1, if_neg h2]; simp
  · by_cases h2 : toE es i = nd
    · rw [if_neg (fun h => h1 (c1.1 h)), if_pos (c2.2 h2), if_neg h1, if_pos h2]; simp; omega
    · rw [if_neg (fun h => h1 (c1.1 h)), if_neg (fun h => h2 (c2.1 h)), if_neg h1, if_neg h2]; simp
end

end Go.Proofs.Ytkdnnfpmppmmcaa

namespace Go.Proofs.Ytkdnnfpmppmmcaa
open Go
set_option linter.unusedVariables false
set_option linter.unusedSimpArgs false

/-- The code and the cost that Solve answers. -/
def OutC (n : Int) (m : Nat) (es : Nat → Ed) (l : Nat) (bf : Nat → Int) (k : Int) (c e : Int) : Prop :=
  (wrong14 n m es l bf k ≠ 0 ∧ c = 0 ∧ e = wrong14 n m es l bf k) ∨
    (wrong14 n m es l bf k = 0 ∧ ((e = 0 ∧ ∃ f p, PlanP l m (frE es) (toE es) (cpE es) bf f ∧ PotP m (frE es) (toE es) (cpE es) (ckE es) f p ∧ c = totC m (ckE es) f) ∨ (e = 5 ∧ c = 0 ∧ ∀ g, ¬ PlanP l m (frE es) (toE es) (cpE es) bf g)))
theorem SolC.out {h h' : H} {n : Int} {m : Nat} {es : Nat → Ed} {l : Nat} {bf : Nat → Int} {k : Int} {r : Res} (S : SolC h n m es l bf k r h') :
    ∃ pl c sv e, r = .ret (.tuple ⟨[.agg ⟨pl⟩, .int .i64 c, sv, .int .i64 e]⟩) ∧ pl.length = 3 ∧ (∀ v ∈ pl, v.oneCell' = true) ∧ (∃ a l c, sv = .slice a l c) ∧ Ext h h' ∧ OutC n m es l bf k c e := by
  rcases S with ⟨x, ⟨hw, rfl⟩ | ⟨hw, hnl, gd, ⟨own, vs, von, vp, f, p, rfl, bs, P⟩ | ⟨bs, sd, rfl, _, _, hl⟩⟩⟩
  · exact ⟨_, _, _, _, rfl, rfl, plZ_one, ⟨_, _, _, rfl⟩, x, .inl ⟨hw, rfl, rfl⟩⟩
  · exact ⟨_, _, _, _, rfl, rfl, P.one, ⟨_, _, _, rfl⟩, x, .inr ⟨hw, .inl ⟨rfl, f, p, P.pl, P.pt, rfl⟩⟩⟩
  · exact ⟨_, _, _, _, rfl, rfl, plZ_one, ⟨_, _, _, rfl⟩, x, .inr ⟨hw, .inr ⟨rfl, rfl, fun g Pg => Pg.none_ gd hl⟩⟩⟩
section
variable {n : Int} {m l : Nat} {es : Nat → Ed} {bf : Nat → Int} {k c e d f : Int}
theorem OutC.c0 (O : OutC n m es l bf k c e) (h : e ≠ 0) : c = 0 := by
  rcases O with ⟨_, h, _⟩ | ⟨_, ⟨h2, _⟩ | ⟨_, h, _⟩⟩
  · exact h
  · exact absurd h2 h
  · exact h
theorem OutC.ok (O : OutC n m es l bf k c e) (h : e = 0) : wrong14 n m es l bf k = 0 ∧ ∃ f p, PlanP l m (frE es) (toE es) (cpE es) bf f ∧ PotP m (frE es) (toE es) (cpE es) (ckE es) f p ∧ c = totC m (ckE es) f := by
  rcases O with ⟨h1, _, h2⟩ | ⟨h1, ⟨_, h2⟩ | ⟨h2, _⟩⟩
  · rw [h] at h2; exact absurd h2.symm h1
  · exact ⟨h1, h2⟩
  · omega
theorem OutC.rev (O : OutC n m es l bf k c e) (O2 : OutC n m (revE es) l (fun v => - bf v) k d f) : e = f ∧ c = d := by
  unfold OutC at O2
  rw [wrong14_rev] at O2
  rcases O with ⟨h1, rfl, rfl⟩ | ⟨h1, h⟩
  · rcases O2 with ⟨_, rfl, rfl⟩ | ⟨h2, _⟩
    · exact ⟨rfl, rfl⟩
    · exact absurd h2 h1
  · rcases O2 with ⟨h2, _⟩ | ⟨_, h2⟩
    · exact absurd h1 h2
    obtain ⟨_, gd, _, _⟩ := wrong14_0 h1
    rcases h with ⟨rfl, a, p, P, Q, rfl⟩ | ⟨rfl, rfl, no⟩
    · rcases h2 with ⟨rfl, a2, p2, P2, Q2, rfl⟩ | ⟨rfl, rfl, no⟩
      · have l1 := P.best P2.rev14' gd.ends Q
        have l2 := P2.best P.rev14 gd.rev.ends Q2
        exact ⟨rfl, Int.le_antisymm l1 l2⟩
      · exact absurd P.rev14 (no _)
    · rcases h2 with ⟨rfl, a2, p2, P2, Q2, rfl⟩ | ⟨rfl, rfl, _⟩
      · exact absurd P2.rev14' (no _)
      · exact ⟨rfl, rfl⟩
end
theorem mul20 {a b : Int} (ha : -1048576 ≤ a ∧ a ≤ 1048576) (hb : -1048576 ≤ b ∧ b ≤ 1048576) : -1099511627776 ≤ a * b ∧ a * b ≤ 1099511627776 := by
  by_cases h : 0 ≤ b
  · have h1 : a * b ≤ 1048576 * b := Int.mul_le_mul_of_nonneg_right ha.2 h
    have h2 : -1048576 * b ≤ a * b := Int.mul_le_mul_of_nonneg_right ha.1 h
    omega
  · have h1 : a * (-b) ≤ 1048576 * (-b) := Int.mul_le_mul_of_nonneg_right ha.2 (by omega)
    have h2 : -1048576 * (-b) ≤ a * (-b) := Int.mul_le_mul_of_nonneg_right ha.1 (by omega)
    have e : a * (-b) = -(a * b) := Int.mul_neg a b
    rw [e] at h1 h2
    omega
section
variable {h : H} {w : List Value} {n : Int} {m l : Nat} {es : Nat → Ed} {sv : Value} {bf : Nat → Int}
theorem CostTurns_T (G : GrA h w n m es) (hm : m ≤ 4398046511104) (Z : RS h sv (ints l bf)) (hl : l ≤ 17592186044416) (rg : ∀ i, i < l → -9223372036854775808 ≤ bf i ∧ bf i ≤ 9223372036854775807) (k nd by_ : Int) :
    T Try.prog F.compasslaw14_CostTurns [.agg ⟨w⟩, sv, .agg ⟨[.int .i64 k, .int .i64 nd, .int .i64 by_]⟩] h fun r h' => r = .ret (.bool true) ∧ Ext h h' := by
  refine E_compasslaw14_CostTurns ?_
  unfold B_compasslaw14_CostTurns
  refine new_bl ?_
  intro b1 q1 hb1 x1 B1_
  refine new_bl ?_
  intro b3 q3 hb3 x3 B3
  refine awake14_R.mono ?_
  rintro _ q4 ⟨rfl, x4⟩
  refine rt_ret ⟨_, rfl, ifP_of (fun h => by simp at h) (fun _ => ?_)⟩
  have B1_ := (B1_.ext x3).ext x4
  have B3 := B3.ext x4
  have x := (x1.trans' x3).trans' x4
  clear x1 x3 x4
  refine B1_.ldN G.one.1 ⟨_, B3.ld rfl, (MSolve_T (G.ext x) (Z.ext x) k).mono ?_⟩
  intro r q5 hS
  obtain ⟨pl, c, sv1, e, rfl, hpl, hone, _, x5, O⟩ := hS.out
  refine rt_ret ⟨_, hpl, _, _, _, rfl, new_bl_st hpl rfl hone ?_⟩
  intro b16 q17 hb16 x16 B16
  have xa := x5.trans' x16
  have B1_ := B1_.ext xa
  have B3 := B3.ext xa
  have x := x.trans' xa
  clear xa x5 x16 B16 hS hone
  have Z := Z.ext x
  have G := G.ext x
  refine Z.len (ints_length _ _) fun _ _ => ?_
  let I : (Value × Int × Unit) → H → Nat → Prop := fun p q z => ∃ (j : Nat) (ow : Own), p.2.1 = j ∧ j ≤ l ∧ z = l - j ∧ Bs q17 ow q ∧ S1 ow q 1 p.1 (ints j fun v => - bf v)
  refine ⟨fun p q => ∃ k, I p q k, rk I, rk_wf I, ⟨_, 0, fun _ => 0, rfl, by omega, rfl, Bs.start, S1.nil⟩, ?_⟩
  intro ov p q hI
  obtain ⟨j, ow, e1, hj, hz, bs, k1⟩ := mu_spec hI
  generalize hkk : mu I ((ov, p, ()), q) = km at *
  change p = (j : Int) at e1
  change S1 ow q 1 ov _ at k1
  subst e1
  have hlt : j < l → l - (j + 1) < mu I ((ov, (j : Int), ()), q) := fun h => by rw [hkk, hz]; exact sub_dec h
  clear hI
  have xq := x.trans' bs.ext
  refine ifP_of (fun h1 => ?_) (fun h1 => ?_)
  · have hjl : j < l := by have := of_decide_eq_true h1; omega
    have rj := rg j hjl
    refine (Z.ext bs.ext).rdI hjl (ifP_of (fun h2 => ?_) (fun h2 => ?_))
    · have h2 := of_decide_eq_true h2
      refine ifP_of (fun _ => ⟨rfl, xq⟩) (fun _ => ⟨?_, xq⟩)
      have : e ≠ 0 := fun he => by
        obtain ⟨hw, _⟩ := O.ok he
        have := (wrong14_0 hw).2.2.1.2.1 j hjl
        omega
      rw [O.c0 this]; simp
    · have h2 := of_decide_eq_false h2
      have ew : IntKind.i64.wrap (0 - bf j) = - bf j := by rw [show (0 : Int) - bf j = - bf j by omega]; exact w64_in (by omega) (by omega)
      rw [ew, i64_inc (by omega)]
      refine k1.push1 (by simp [Value.oneCell']) (by omega) (by rw [ints_length]; omega) ?_
      intro bx hm2 p' ow' q' hbx xm F2 k1
      have bs := bs.fm F2 (by simp <;> omega)
      refine mu_next (I := I) (k := l - (j + 1)) ⟨j + 1, ow', rfl, hjl, rfl, bs, ?_⟩ (hlt hjl)
      show S1 ow' q' 1 p' (ints (j + 1) fun v => - bf v)
      rw [ints_push]; exact k1
  have hjl : j = l := by have := of_decide_eq_false h1; omega
  subst hjl
  clear hlt hkk hz h1 hj
  have B1_ := B1_.ext bs.ext
  have B3 := B3.ext bs.ext
  have G := G.ext bs.ext
  have Z := Z.ext bs.ext
  have Zo := RS.of_S1 k1
  clear bs k1 x
  refine B1_.ldN G.one.1 ⟨_, B3.ld rfl, (Reverse_R G hm).mono ?_⟩
  rintro _ q6 ⟨rv, ow2, rfl, bs2, k2⟩
  refine rt_ret ⟨_, rfl, rfl, sameAt_bl B3 (B3.ext bs2.ext), ?_⟩
  refine (MSolve_T (k2.gs.gr n) (Zo.ext bs2.ext) k).mono ?_
  intro r2 q7 hS2
  obtain ⟨pl2, d, sv2, f, rfl, hpl2, hone2, _, x7, O2⟩ := hS2.out
  obtain ⟨rfl, rfl⟩ := O.rev O2
  refine rt_ret ⟨_, hpl2, _, _, _, rfl, new_bl_st hpl2 rfl hone2 ?_⟩
  intro b44 q45 hb44 x44 B44
  have xb := (bs2.ext.trans' x7).trans' x44
  have B1_ := B1_.ext xb
  have B3 := B3.ext xb
  have G := G.ext xb
  have Z := Z.ext xb
  have x := xq.trans' xb
  clear xb bs2 k2 x7 x44 B44 hS2 hone2 Zo
  refine ifP_of (fun h => by simp at h) (fun _ => ifP_of (fun h => by simp at h) (fun _ => ?_))
  have fin : ∀ {A : Prop}, (e ≠ 0 ∨ A) → ifP (decide (e = 0)) ((.ret (.bool true) : Res) = .ret (.bool true) ∧ Ext h q45) ((.ret (.bool (decide (c = 0))) : Res) = .ret (.bool true) ∧ Ext h q45) := fun _ =>
    ifP_of (fun _ => ⟨rfl, x⟩) (fun h => ⟨by rw [O.c0 (of_decide_eq_false h)]; simp, x⟩)
  obtain ⟨gv, rfl, Gv⟩ := G.gs
  refine ⟨fun _ q => q = q45 ∧ e = 0 ∧ 0 ≤ nd ∧ nd < n ∧ -1048576 ≤ by_ ∧ by_ ≤ 1048576, ?_, ?_⟩
  · refine ifP_of (fun h1 => fin (A := True) (.inr trivial)) (fun h1 => ⟨_, B3.ld rfl, ifP_of (fun h2 => fin (A := True) (.inr trivial)) (fun h2 => ⟨_, B3.ld rfl, _, B1_.ld rfl, ifP_of (fun h3 => fin (A := True) (.inr trivial)) (fun h3 => ⟨_, B3.ld rfl, ifP_of (fun h4 => fin (A := True) (.inr trivial)) (fun h4 => ⟨_, B3.ld rfl, ifP_of (fun h5 => fin (A := True) (.inr trivial)) (fun h5 => ?_)⟩)⟩)⟩)⟩)
    have h2 := of_decide_eq_false h2
    have h3 := of_decide_eq_false h3
    have h4 := of_decide_eq_false h4
    have h5 := of_decide_eq_false h5
    exact ⟨rfl, by simpa using h1, by omega, by omega, by omega, by omega⟩
  intro q8 hq
  obtain ⟨hq, he, n0, nn, by0, by1⟩ := hq
  subst hq
  obtain ⟨hw, f1, p1, P1, Q1, hc⟩ := O.ok he
  obtain ⟨hnl, gd, hs, hk1, hk2⟩ := wrong14_0 hw
  subst hnl
  have m1 := gd.m1
  have n1 := gd.n1
  obtain ⟨v, rfl⟩ : ∃ v : Nat, nd = v := ⟨nd.toNat, by omega⟩
  refine B1_.ldN rfl ((Copy_R (Gv.gr _) (by omega)).mono ?_)
  rintro _ q9 ⟨ev, ow, rfl, bs, k1⟩
  refine rt_ret ⟨_, rfl, rfl, new_bl_st rfl rfl (by
    intro z hz
    simp only [List.mem_cons, List.not_mem_nil, or_false] at hz
    rcases hz with rfl | rfl
    · rfl
    · exact slc_one k1.isS) ?_⟩
  intro b58 q10 hb58 x58 B58
  have k4 : B1 (own1 ow b58 4) q10 4 b58 [.int .i64 j, ev] := B1.new B58
  have bs := bs.nw (j := 4) x58 hb58
  have k1 := k1.nw (j := 4) x58 hb58
  generalize own1 ow b58 4 = ow at *
  refine ⟨_, k4.ld rfl, k1.gs.len fun _ _ => ?_⟩
  let I2 : (Int × Unit) → H → Nat → Prop := fun p q z => ∃ (i : Nat), p.1 = i ∧ i ≤ m ∧ z = m - i ∧ Bs q8 ow q ∧ B1 ow q 4 b58 [.int .i64 j, ev] ∧ S4 ow q 1 ev m (fun a => if a < i then mvE es v by_ a else es a)
  refine ⟨fun p q => ∃ k, I2 p q k, rk I2, rk_wf I2, ⟨_, 0, rfl, by omega, rfl, bs, k4, k1.congr fun i hi => by rw [if_neg (by omega)]⟩, ?_⟩
  clear bs k4 k1
  intro p q hI
  obtain ⟨i, e1, hi, hz, bs, k4, k1⟩ := mu_spec hI
  generalize hkk : mu I2 ((p, ()), q) = km at *
  change p = (i : Int) at e1
  subst e1
  have hlt : i < m → m - (i + 1) < mu I2 (((i : Int), ()), q) := fun h => by rw [hkk, hz]; exact sub_dec h
  clear hI
  refine ifP_of (fun h1 => ?_) (fun h1 => ?_)
  · have him : i < m := by have := of_decide_eq_true h1; omega
    have kb := gd.k i him
    rw [i64_inc (by omega)]
    obtain ⟨es1, hes1⟩ : ∃ es1 : Nat → Ed, es1 = fun a => if a < i then mvE es v by_ a else es a := ⟨_, rfl⟩
    rw [← hes1] at k1
    have ei : es1 i = es i := by rw [hes1]; exact if_neg (Nat.lt_irrefl _)
    obtain ⟨k1v, hk1v⟩ : ∃ z : Int, z = (es i).k + (if (es i).f = (v : Int) then by_ else 0) := ⟨_, rfl⟩
    refine ⟨fun _ q' => Bs q8 ow q' ∧ B1 ow q' 4 b58 [.int .i64 j, ev] ∧ S4 ow q' 1 ev m (cstE es1 i k1v), ?_, ?_⟩
    · have B3q := B3.ext bs.ext
      refine ⟨_, k4.ld rfl, k1.gs.f him ?_⟩
      rw [ei]
      refine ⟨_, B3q.ld rfl, ifP_of (fun h2 => ?_) (fun h2 => ?_)⟩
      · have h2 := of_decide_eq_true h2
        rw [if_pos h2] at hk1v
        refine ⟨_, k4.ld rfl, k1.gs.k him ⟨_, B3q.ld rfl, ?_⟩⟩
        rw [ei]
        have ew : IntKind.i64.wrap ((es i).k + by_) = k1v := by rw [hk1v]; exact w64_in (by omega) (by omega)
        dsimp only
        rw [ew]
        refine k1.setK him fun g F1 k1 => ?_
        have bs := bs.fm F1 (by simp <;> omega)
        have k4 := k4.fm F1 (by simp <;> omega)
        exact ⟨bs, k4, k1⟩
      · have h2 := of_decide_eq_false h2
        rw [if_neg h2] at hk1v
        refine ⟨bs, k4, k1.congr fun a ha => ?_⟩
        unfold cstE
        split
        · rename_i h; subst h
          rw [ei, hk1v]
          simp
        · rfl
    · intro q2 hq2
      obtain ⟨bs, k4, k1⟩ := hq2
      have B3q := B3.ext bs.ext
      have e2 : (cstE es1 i k1v i).t = (es i).t ∧ (cstE es1 i k1v i).k = k1v := by
        unfold cstE; rw [if_pos rfl, ei]; exact ⟨rfl, rfl⟩
      have kv : -2097152 ≤ k1v ∧ k1v ≤ 2097152 := by rw [hk1v]; split <;> omega
      have goalC : ∀ a, a < m → (if a < i + 1 then mvE es v by_ a else es a) = cstE (cstE es1 i k1v) i (k1v - (if (es i).t = (v : Int) then by_ else 0)) a := fun a ha => by
        by_cases h : a = i
        · subst h
          rw [if_pos (by omega)]
          unfold cstE
          rw [if_pos rfl, if_pos rfl, ei, hk1v]
          rfl
        · unfold cstE
          rw [if_neg h, if_neg h, hes1]
          dsimp only
          by_cases h2 : a < i
          · rw [if_pos h2, if_pos (by omega)]
          · rw [if_neg h2, if_neg (by omega)]
      refine ⟨_, k4.ld rfl, k1.gs.t him ?_⟩
      rw [e2.1]
      refine ⟨_, B3q.ld rfl, ifP_of (fun h2 => ?_) (fun h2 => ?_)⟩
      · have h2 := of_decide_eq_true h2
        refine ⟨_, k4.ld rfl, k1.gs.k him ⟨_, B3q.ld rfl, ?_⟩⟩
        rw [e2.2]
        have ew : IntKind.i64.wrap (k1v - by_) = k1v - (if (es i).t = (v : Int) then by_ else 0) := by rw [if_pos h2]; exact w64_in (by omega) (by omega)
        dsimp only
        rw [ew]
        refine k1.setK him fun g F1 k1 => ?_
        have bs := bs.fm F1 (by simp <;> omega)
        have k4 := k4.fm F1 (by simp <;> omega)
        exact mu_next (I := I2) (k := m - (i + 1)) ⟨i + 1, rfl, him, rfl, bs, k4, k1.congr goalC⟩ (hlt him)
      · have h2 := of_decide_eq_false h2
        refine mu_next (I := I2) (k := m - (i + 1)) ⟨i + 1, rfl, him, rfl, bs, k4, k1.congr fun a ha => ?_⟩ (hlt him)
        rw [goalC a ha, if_neg h2]
        unfold cstE
        by_cases h : a = i
        · subst h; rw [if_pos rfl, if_pos rfl]; simp
        · rw [if_neg h, if_neg h]
  have him : i = m := by have := of_decide_eq_false h1; omega
  subst him
  have k1 : S4 ow q 1 ev i (mvE es v by_) := k1.congr fun a ha => by rw [if_pos ha]
  have B3q := B3.ext bs.ext
  refine k4.ldN rfl ⟨_, B3q.ld rfl, (MSolve_T (k1.gs.gr j) (Z.ext bs.ext) k).mono ?_⟩
  intro r3 q11 hS3
  obtain ⟨pl3, c3, sv3, e3, rfl, hpl3, hone3, _, x11, O3⟩ := hS3.out
  refine rt_ret ⟨_, hpl3, _, _, _, rfl, new_bl_st hpl3 rfl hone3 ?_⟩
  intro b99 q12 hb99 x99 B99
  have xz := (x.trans' bs.ext).trans' (x11.trans' x99)
  refine ifP_of (fun _ => ⟨rfl, xz⟩) (fun h31 => ?_)
  have h31 := of_decide_eq_false h31
  rcases mv_fault gd (v : Int) by_ with hf | hf
  rotate_left
  · exfalso
    have hw3 : wrong14 j i (mvE es v by_) j bf k = 31 := by unfold wrong14; rw [if_neg (by omega), hf]
    rcases O3 with ⟨_, _, h⟩ | ⟨h, _⟩
    · rw [hw3] at h; exact h31 h
    · rw [hw3] at h; omega
  have hw3 : wrong14 j i (mvE es v by_) j bf k = 0 := by unfold wrong14; rw [if_pos hf, if_pos hs, if_pos ⟨hk1, hk2⟩]
  rcases O3 with ⟨h, _⟩ | ⟨_, ⟨rfl, f3, p3, P3, Q3, rfl⟩ | ⟨_, _, no⟩⟩
  · exact absurd hw3 h
  rotate_left
  · exact absurd (show PlanP j i (frE (mvE es v by_)) (toE (mvE es v by_)) (cpE (mvE es v by_)) bf f1 from ⟨P1.cp, P1.out⟩) (no _)
  have P3' : PlanP j i (frE es) (toE es) (cpE es) bf f3 := ⟨P3.cp, P3.out⟩
  have vj : v < j := by omega
  have key : totC i (ckE (mvE es v by_)) f3 = c + by_ * bf v := by
    have l1 := P1.best P3' gd.ends Q1
    have l2 := P3.best (show PlanP j i (frE (mvE es v by_)) (toE (mvE es v by_)) (cpE (mvE es v by_)) bf f1 from ⟨P1.cp, P1.out⟩) gd.ends Q3
    rw [mv_tot gd, mv_tot gd, P1.out v vj, P3'.out v vj] at l2
    rw [mv_tot gd, P3'.out v vj, hc]
    omega
  refine ifP_of (fun _ => ⟨_, (B3q.ext (x11.trans' x99)).ld rfl, _, (B3q.ext (x11.trans' x99)).ld rfl, (Z.ext (bs.ext.trans' (x11.trans' x99))).rdI vj ⟨?_, xz⟩⟩) (fun h => by simp at h)
  have tb := mul20 ⟨by0, by1⟩ (hs.2.1 v vj)
  have cb := totC_bd (m := i) (k := ckE es) (f := f1) (C := 1048576) (X := 1048576) (by omega) (by omega) gd.k (fun a ha => by
    have := P1.cp a ha
    have := gd.c a ha
    unfold cpE at *; omega)
  rw [← hc] at cb
  have ew1 : IntKind.i64.wrap (by_ * bf v) = by_ * bf v := w64_in (by omega) (by omega)
  have ew2 : IntKind.i64.wrap (c + by_ * bf v) = c + by_ * bf v := w64_in (by omega) (by omega)
  rw [ew1, ew2, key]; simp
end

end Go.Proofs.Ytkdnnfpmppmmcaa

